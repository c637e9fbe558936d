/- Is a message right? -/
import Derived.Test.YtcejamblndilbaaFill
import Derived.Test.YtcejamblndilbaaRight2
import Derived.Deep.RegionHeld3
import Derived.Deep.CutRange
import Derived.Deep.CutBlock
import Derived.IntWalk
namespace Go.Proofs.Ytcejamblndilbaa
open Go.RowKit

theorem nine_cells {w : World} {B : Nat} {T : TypeId} {p : Pt} (h : w.heap[B]? = some (.cells p.cs T (0, 0))) :
    w.cell? ⟨B, 0, none⟩ = some (.bool p.index) ∧ w.cell? ⟨B, 1, none⟩ = some (.bool p.logTerm) ∧ w.cell? ⟨B, 2, none⟩ = some (.bool p.commit) ∧ w.cell? ⟨B, 3, none⟩ = some (.bool p.ok) ∧ w.cell? ⟨B, 4, none⟩ = some (.bool p.entries) ∧ w.cell? ⟨B, 5, none⟩ = some (.bool p.off) ∧ w.cell? ⟨B, 6, none⟩ = some (.bool p.data) ∧ w.cell? ⟨B, 7, none⟩ = some (.bool p.last) ∧ w.cell? ⟨B, 8, none⟩ = some (.bool p.conf) := by
  unfold Pt.cs at h
  refine ⟨?_, ?_, ?_, ?_, ?_, ?_, ?_, ?_, ?_⟩ <;> simp [World.cell?, h]

theorem keepc {w w' : World} (h : Below w.heap.size w w') {a : Addr} {v : Value} (ha : w.cell? a = some v) : w'.cell? a = some v := (below_cell h a (by rw [ha]; rfl)).trans ha
/-- one part: is it named, is it zero, is it right? -/
def part3 (named zero right : Bool) : Bool := !((named && !right) || (!named && !zero))
/-- are all parts right? -/
def partsOk (p : Pt) (m : Ms) : Bool :=
  part3 p.index (m.index == 0) (numberOf m.index (if p.off then 1 else 0)) && (part3 p.logTerm (m.logTerm == 0) (numberOf m.logTerm 0) && (part3 p.commit (m.commit == 0) (numberOf m.commit 0) &&
  (part3 p.ok (!m.ok) true && (part3 p.entries (decide (m.en = 0)) (mEnts m.term m.index m.logTerm m.es && decide (m.en ≤ 8)) && (part3 p.off (m.off == 0) (decide (0 ≤ m.off) && decide (m.off ≤ 32768)) &&
  (part3 p.data (decide (m.d.len = 0)) (decide (m.d.len ≤ 64)) && (part3 p.last (!m.last) true && part3 p.conf (decide (m.c.v.len + m.c.l.len = 0)) (confRight m.c.v.zs m.c.l.zs))))))))
/-- Right's table -/
def rowsM (p : Pt) (m : Ms) (least : Int) : List (Bool × Bool × Bool) :=
  [(p.index, m.index == 0, numberOf m.index least), (p.logTerm, m.logTerm == 0, numberOf m.logTerm 0), (p.commit, m.commit == 0, numberOf m.commit 0), (p.ok, !m.ok, true),
   (p.entries, decide (m.en = 0), mEnts m.term m.index m.logTerm m.es && decide (m.en ≤ 8)), (p.off, m.off == 0, decide (0 ≤ m.off) && decide (m.off ≤ 32768)),
   (p.data, decide (m.d.len = 0), decide (m.d.len ≤ 64)), (p.last, !m.last, true), (p.conf, decide (m.c.v.len + m.c.l.len = 0), confRight m.c.v.zs m.c.l.zs)]
def rowCells (r : Bool × Bool × Bool) : List Value := [.bool r.1, .bool r.2.1, .bool r.2.2]
theorem partsOk_rows (p : Pt) (m : Ms) : partsOk p m = (rowsM p m (if p.off then 1 else 0)).all (fun r => part3 r.1 r.2.1 r.2.2) := by
  simp [partsOk, rowsM]
theorem row3_at {w : World} {a : Option Addr} {n : Nat} {rs : List (Bool × Bool × Bool)} (hr : RowN w a 3 n (rs.flatMap rowCells)) (k : Nat) (r : Bool × Bool × Bool) (he : rs[k]? = some r) :
    ∃ b off, a = some ⟨b, off, none⟩ ∧ w.cell? ⟨b, off + k * 3, none⟩ = some (.bool r.1) ∧ w.cell? ⟨b, off + k * 3 + 1, none⟩ = some (.bool r.2.1) ∧ w.cell? ⟨b, off + k * 3 + 2, none⟩ = some (.bool r.2.2) := by
  have hk : k < rs.length := (List.getElem?_eq_some_iff.1 he).1
  have hlen : ∀ l : List (Bool × Bool × Bool), (l.flatMap rowCells).length = l.length * 3 := by
    intro l
    induction l with
    | nil => rfl
    | cons v r ih => rw [List.flatMap_cons, List.length_append, ih, List.length_cons]; simp [rowCells]; omega
  have h1 := hr.1
  rw [hlen] at h1
  obtain ⟨b, off, ha, hc⟩ := hr.2 (by omega)
  have hdrop : ∀ (k : Nat) (l : List (Bool × Bool × Bool)), (l.flatMap rowCells).drop (k * 3) = (l.drop k).flatMap rowCells := by
    intro k
    induction k with
    | zero => intro l; simp
    | succ k ih =>
      intro l
      cases l with
      | nil => simp
      | cons v r => rw [List.flatMap_cons, List.drop_append, List.drop_of_length_le (by simp [rowCells]; omega), List.nil_append, List.drop_succ_cons, ← ih]; simp [rowCells]; congr 1; omega
  have hcell : ∀ i u, i < 3 → (rowCells r)[i]? = some u → (rs.flatMap rowCells)[k * 3 + i]? = some u := fun i u hi hu => by
    have h1 : ((rs.flatMap rowCells).drop (k * 3))[i]? = some u := by
      rw [hdrop, List.drop_eq_getElem_cons hk, List.flatMap_cons, List.getElem?_append_left (by simp [rowCells]; omega)]
      have : rs[k]'hk = r := (List.getElem?_eq_some_iff.1 he).2
      rw [this]
      exact hu
    rwa [List.getElem?_drop] at h1
  exact ⟨b, off, ha, hc _ _ (hcell 0 _ (by omega) rfl), by rw [Nat.add_assoc]; exact hc _ _ (hcell 1 _ (by omega) rfl), by rw [Nat.add_assoc]; exact hc _ _ (hcell 2 _ (by omega) rfl)⟩
def headOk (m : Ms) : Bool := (namesOf m.kind).2 && (decide (1 ≤ m.fr) && (decide (m.fr ≤ 7) && (decide (1 ≤ m.to) && (decide (m.to ≤ 7) && (decide (m.fr ≠ m.to) && numberOf m.term 1)))))
def rightM (m : Ms) : Bool := headOk m && (partsOk (namesOf m.kind).1 m && (decide (m.kind ≠ 7) || decide (m.logTerm ≤ m.term)))

/-- what the operations of Right's great region leave -/
def valsR (bM bP : Nat) : Pt → Ms → Int → List Value
  | ⟨p0, p1, p2, p3, p4, p5, p6, p7, p8⟩, ⟨kind, fr, tt, term, index, logTerm, commit, ok, ea, en, ecap, es, off, d, last, c⟩, least => [
    .pointer (some ⟨bP, 0, none⟩),
    .bool p0,
    .pointer (some ⟨bM, 4, none⟩),
    .int .i64 index,
    .bool (index == 0),
    .pointer (some ⟨bM, 4, none⟩),
    .int .i64 index,
    .int .i64 least,
    .bool (numberOf index least),
    .agg #[.bool p0, .bool (index == 0), .bool (numberOf index least)],
    .pointer (some ⟨bP, 1, none⟩),
    .bool p1,
    .pointer (some ⟨bM, 5, none⟩),
    .int .i64 logTerm,
    .bool (logTerm == 0),
    .pointer (some ⟨bM, 5, none⟩),
    .int .i64 logTerm,
    .bool (numberOf logTerm 0),
    .agg #[.bool p1, .bool (logTerm == 0), .bool (numberOf logTerm 0)],
    .pointer (some ⟨bP, 2, none⟩),
    .bool p2,
    .pointer (some ⟨bM, 6, none⟩),
    .int .i64 commit,
    .bool (commit == 0),
    .pointer (some ⟨bM, 6, none⟩),
    .int .i64 commit,
    .bool (numberOf commit 0),
    .agg #[.bool p2, .bool (commit == 0), .bool (numberOf commit 0)],
    .pointer (some ⟨bP, 3, none⟩),
    .bool p3,
    .pointer (some ⟨bM, 7, none⟩),
    .bool ok,
    .bool (!ok),
    .agg #[.bool p3, .bool (!ok), .bool true],
    .pointer (some ⟨bP, 4, none⟩),
    .bool p4,
    .pointer (some ⟨bM, 8, none⟩),
    .slice ea en ecap,
    .int .i64 ((en : Nat) : Int),
    .bool (((en : Nat) : Int) == 0),
    .agg #[.int .i64 kind, .int .i64 fr, .int .i64 tt, .int .i64 term, .int .i64 index, .int .i64 logTerm, .int .i64 commit, .bool ok, .slice ea en ecap, .int .i64 off, .slice d.a d.len d.cap, .bool last, .slice c.v.a c.v.len c.v.cap, .slice c.l.a c.l.len c.l.cap],
    .bool (mEnts term index logTerm es && decide (en ≤ 8)),
    .agg #[.bool p4, .bool (((en : Nat) : Int) == 0), .bool (mEnts term index logTerm es && decide (en ≤ 8))],
    .pointer (some ⟨bP, 5, none⟩),
    .bool p5,
    .pointer (some ⟨bM, 9, none⟩),
    .int .i64 off,
    .bool (off == 0),
    .pointer (some ⟨bM, 9, none⟩),
    .int .i64 off,
    .bool (decide (0 ≤ off)),
    .bool (decide (0 ≤ off)),
    if 0 ≤ off then .pointer (some ⟨bM, 9, none⟩) else undef,
    if 0 ≤ off then .int .i64 off else undef,
    if 0 ≤ off then .bool (decide (off ≤ 32768)) else undef,
    .bool (decide (0 ≤ off) && decide (off ≤ 32768)),
    .agg #[.bool p5, .bool (off == 0), .bool (decide (0 ≤ off) && decide (off ≤ 32768))],
    .pointer (some ⟨bP, 6, none⟩),
    .bool p6,
    .pointer (some ⟨bM, 10, none⟩),
    .slice d.a d.len d.cap,
    .int .i64 ((d.len : Nat) : Int),
    .bool (((d.len : Nat) : Int) == 0),
    .pointer (some ⟨bM, 10, none⟩),
    .slice d.a d.len d.cap,
    .int .i64 ((d.len : Nat) : Int),
    .bool (decide (((d.len : Nat) : Int) ≤ 64)),
    .agg #[.bool p6, .bool (((d.len : Nat) : Int) == 0), .bool (decide (((d.len : Nat) : Int) ≤ 64))],
    .pointer (some ⟨bP, 7, none⟩),
    .bool p7,
    .pointer (some ⟨bM, 11, none⟩),
    .bool last,
    .bool (!last),
    .agg #[.bool p7, .bool (!last), .bool true],
    .pointer (some ⟨bP, 8, none⟩),
    .bool p8,
    .pointer (some ⟨bM, 12, none⟩),
    .pointer (some ⟨bM, 12, none⟩),
    .slice c.v.a c.v.len c.v.cap,
    .int .i64 ((c.v.len : Nat) : Int),
    .pointer (some ⟨bM, 12, none⟩),
    .pointer (some ⟨bM, 13, none⟩),
    .slice c.l.a c.l.len c.l.cap,
    .int .i64 ((c.l.len : Nat) : Int),
    .int .i64 (IntKind.i64.wrap (((c.v.len : Nat) : Int) + ((c.l.len : Nat) : Int))),
    .bool ((IntKind.i64.wrap (((c.v.len : Nat) : Int) + ((c.l.len : Nat) : Int))) == 0),
    .pointer (some ⟨bM, 12, none⟩),
    .agg #[.slice c.v.a c.v.len c.v.cap, .slice c.l.a c.l.len c.l.cap],
    .bool (confRight c.v.zs c.l.zs),
    .agg #[.bool p8, .bool ((IntKind.i64.wrap (((c.v.len : Nat) : Int) + ((c.l.len : Nat) : Int))) == 0), .bool (confRight c.v.zs c.l.zs)],
    undef,
    .int .i64 9,
    .int .i64 0]

def VR (bM bP : Nat) (p : Pt) (m : Ms) (least : Int) (k : Nat) (v : Value) (w : World) : Prop :=
  (k ≠ 90 → (valsR bM bP p m least)[k]? = some v) ∧ (k = 90 → ∃ B, v = .slice (some ⟨B, 0, none⟩) 9 9 ∧ RowN w (some ⟨B, 0, none⟩) 3 9 ((rowsM p m least).flatMap rowCells))
theorem VR.kept {bM bP : Nat} {p : Pt} {m : Ms} {least : Int} (k : Nat) (v : Value) (w w' : World) (h : VR bM bP p m least k v w) (hb : Below w.heap.size w w') : VR bM bP p m least k v w' :=
  ⟨h.1, fun hk => by obtain ⟨B, h1, h2⟩ := h.2 hk; exact ⟨B, h1, h2.below hb⟩⟩
theorem fill_val {a : Act} {bM bP : Nat} {p : Pt} {m : Ms} {least : Int} {w : World} {j : Nat} {v : Value} (h : ∃ v, a.tmps[51 + j]? = some v ∧ VR bM bP p m least j v w) (hj : j ≠ 90) (hv : (valsR bM bP p m least)[j]? = some v) : a.tmps.getD (51 + j) undef = v := by
  obtain ⟨u, h1, h2, _⟩ := h
  rw [Array.getD_eq_getD_getElem?, h1]
  have := (h2 hj).symm.trans hv
  injection this
theorem fill_bool {a : Act} {bM bP : Nat} {p : Pt} {m : Ms} {least : Int} {w : World} {j : Nat} {b : Bool} (h : ∃ v, a.tmps[51 + j]? = some v ∧ VR bM bP p m least j v w) (hj : j ≠ 90) (hv : (valsR bM bP p m least)[j]? = some (.bool b)) : boolAt 51 a.tmps j = some b := by
  obtain ⟨u, h1, h2, _⟩ := h
  have := (h2 hj).symm.trans hv
  injection this with this
  unfold boolAt
  rw [h1, this]

set_option maxRecDepth 100000 in
set_option maxHeartbeats 16000000 in
theorem mright_any (m : Ms) (w : World) (h : MsOk w m) (hcn : m.c.v.len ≤ 9223372036854775807 ∧ m.c.l.len ≤ 9223372036854775807) :
    Calls Try.prog 13 #[.agg m.cs] w (RetBox w (.bool (rightM m))) := by
  obtain ⟨X, hX⟩ : ∃ X, X = w.alloc (.cells m.cs 28) := ⟨_, rfl⟩
  have hXb : Below w.heap.size w X := hX ▸ below_alloc (Below.refl _ _) _
  have hXs : X.heap.size = w.heap.size + 1 := by rw [hX, World.size_alloc]
  have hXc : X.heap[w.heap.size]? = some (.cells m.cs 28 (0, 0)) := hX ▸ heap_alloc_new w _
  have hbx : ∀ Z, Below X.heap.size X Z → Z.heap[w.heap.size]? = some (.cells m.cs 28 (0, 0)) := fun Z hZ => (hZ.block _ (by omega)).trans hXc
  have hnm := names_any m.kind X
  have hnb := fun n l Z => number_any n l Z
  have hme := fun Z (hZ : Below X.heap.size X Z) => mentries_any m Z (h.below (below_then hXb hZ))
  have hcr := fun Z (hZ : Below X.heap.size X Z) => confRight_any m.c Z ⟨(h.below (below_then hXb hZ)).cv, (h.below (below_then hXb hZ)).cl⟩ hcn
  obtain ⟨v, hv⟩ : ∃ v, v = rightM m := ⟨_, rfl⟩
  rw [← hv]
  have HV := Lib.hid hv
  have HNM := Lib.hid hnm
  have HNB := Lib.hid hnb
  have HME := Lib.hid hme
  have HCR := Lib.hid hcr
  have HXB := Lib.hid hXb
  have HBX := Lib.hid hbx
  have hdl0 : m.d.len ≤ maxLen := Nat.le_trans h.data.2.1 h.data.2.2.1
  have hen : m.en ≤ 9223372036854775807 := by have := h.ecap; simp only [maxLen] at this; omega
  clear hv hnm hnb hme hcr hXb hbx h hXs hXc
  have HX := Lib.hid hX
  clear hX
  obtain ⟨kind, fr, tt, term, index, logTerm, commit, ok, ea, en, ecap, es, off, d, last, c⟩ := m
  simp only [Ms.cs] at HX HBX HV HNM HME HCR hen ⊢
  go_enter Try.func13, Try.ntmps13
  go_wp2_with fail
  rw [← HX.out]
  obtain ⟨b0, b1, b2, b3, b4, b5, b6, b7, b8, b9, b10, b11, b12, b13⟩ := ms_cells (m := ⟨kind, fr, tt, term, index, logTerm, commit, ok, ea, en, ecap, es, off, d, last, c⟩) (HBX.out _ (Below.refl _ _))
  go_wp2_with fail
  refine HNM.out.mono ?_
  rintro e w1 ⟨rfl, hb1⟩
  have HB1 := Lib.hid hb1
  clear hb1
  obtain ⟨p, yes, hpy⟩ : ∃ p yes, namesOf kind = (p, yes) := ⟨_, _, rfl⟩
  have hv := HV.out
  simp only [rightM, headOk, hpy] at hv
  simp only [hpy]
  clear HV HNM hpy b0 b1 b2 b3 b4 b5 b6 b7 b8 b9 b10 b11 b12 b13
  obtain ⟨p0, p1, p2, p3, p4, p5, p6, p7, p8⟩ := p
  simp only [Pt.cs, partsOk] at hv ⊢
  have HV := Lib.hid hv
  clear hv
  obtain ⟨Z, hZ⟩ : ∃ Z, Z = w1.alloc (.cells #[.bool p0, .bool p1, .bool p2, .bool p3, .bool p4, .bool p5, .bool p6, .bool p7, .bool p8] 59) := ⟨_, rfl⟩
  have hbZ : Below X.heap.size X Z := below_then HB1.out (hZ ▸ below_alloc (Below.refl _ _) _)
  obtain ⟨b0, b1, b2, b3, b4, b5, b6, b7, b8, b9, b10, b11, b12, b13⟩ := ms_cells (m := ⟨kind, fr, tt, term, index, logTerm, commit, ok, ea, en, ecap, es, off, d, last, c⟩) (HBX.out _ hbZ)
  obtain ⟨q0, q1, q2, q3, q4, q5, q6, q7, q8⟩ := nine_cells (p := ⟨p0, p1, p2, p3, p4, p5, p6, p7, p8⟩) (show Z.heap[w1.heap.size]? = some (.cells _ 59 (0, 0)) from hZ ▸ heap_alloc_new w1 _)
  simp only at b0 b1 b2 b3 b4 b5 b6 b7 b8 b9 b10 b11 b12 b13 q0 q1 q2 q3 q4 q5 q6 q7 q8
  have hdl : d.len ≤ 9223372036854775807 := by have := hdl0; simp only [maxLen] at this; omega
  have HZ := Lib.hid hZ
  have HBZ := Lib.hid hbZ
  rw [hZ] at b1 b2 b3
  clear hZ hbZ
  cases yes
  · have hv : v = false := by rw [HV.out]; rfl
    subst hv
    clear HV
    go_wp2_with fail
    go_ret
    exact ⟨rfl, below_then HXB.out (HZ.out ▸ HBZ.out)⟩
  by_cases h1 : fr < 1
  · have hv : v = false := by rw [HV.out, decide_eq_false (by omega : ¬ 1 ≤ fr)]; simp
    subst hv
    clear HV
    go_wp2_with fail
    go_ret
    exact ⟨rfl, below_then HXB.out (HZ.out ▸ HBZ.out)⟩
  by_cases h2 : 7 < fr
  · have hv : v = false := by rw [HV.out, decide_eq_false (by omega : ¬ fr ≤ 7)]; simp
    subst hv
    clear HV
    go_wp2_with fail
    go_ret
    exact ⟨rfl, below_then HXB.out (HZ.out ▸ HBZ.out)⟩
  by_cases h3 : tt < 1
  · have hv : v = false := by rw [HV.out, decide_eq_false (by omega : ¬ 1 ≤ tt)]; simp
    subst hv
    clear HV
    go_wp2_with fail
    go_ret
    exact ⟨rfl, below_then HXB.out (HZ.out ▸ HBZ.out)⟩
  by_cases h4 : 7 < tt
  · have hv : v = false := by rw [HV.out, decide_eq_false (by omega : ¬ tt ≤ 7)]; simp
    subst hv
    clear HV
    go_wp2_with fail
    go_ret
    exact ⟨rfl, below_then HXB.out (HZ.out ▸ HBZ.out)⟩
  by_cases h5 : fr = tt
  · have hv : v = false := by rw [HV.out, decide_eq_false (not_not_intro h5 : ¬ fr ≠ tt)]; simp
    subst hv
    clear HV
    go_wp2_with fail
    go_ret
    exact ⟨rfl, below_then HXB.out (HZ.out ▸ HBZ.out)⟩
  have hv : v = (numberOf term 1 && (partsOk ⟨p0, p1, p2, p3, p4, p5, p6, p7, p8⟩ ⟨kind, fr, tt, term, index, logTerm, commit, ok, ea, en, ecap, es, off, d, last, c⟩ && (decide (kind ≠ 7) || decide (logTerm ≤ term)))) := by
    rw [HV.out, decide_eq_true (by omega : 1 ≤ fr), decide_eq_true (by omega : fr ≤ 7), decide_eq_true (by omega : 1 ≤ tt), decide_eq_true (by omega : tt ≤ 7), decide_eq_true (h5 : fr ≠ tt)]
    simp only [Bool.true_and]
    rfl
  have hne : (fr == tt) = false := by simp [h5]
  clear HV
  have HV := Lib.hid hv
  clear hv
  cases hnm1 : numberOf term 1
  · have hv : v = false := by rw [HV.out, hnm1]; rfl
    subst hv
    have hN := fun q => number_any term 1 (Z.drewN q)
    rw [hnm1] at hN
    have HN := Lib.hid hN
    clear HV hnm1 hN
    go_wp2_with fail
    rw [← HZ.out]
    refine (HN.out 0).mono ?_
    rintro e y1 ⟨rfl, n1, rfl⟩
    go_wp2_with fail
    go_ret
    exact ⟨rfl, below_then HXB.out (below_drewN HBZ.out _)⟩
  have hN := fun q => number_any term 1 (Z.drewN q)
  rw [hnm1] at hN
  have HN := Lib.hid hN
  have hv := HV.out
  rw [hnm1, Bool.true_and] at hv
  clear HV
  have HV := Lib.hid hv
  clear hv hnm1 hN
  go_wp2_with fail
  clear h1 h2 h3 h4 h5 hne
  rw [← HZ.out]
  refine (HN.out 0).mono ?_
  rintro e y1 ⟨rfl, n1, rfl⟩
  rw [← HZ.out] at b1 b2 b3
  obtain ⟨Y, hY⟩ : ∃ Y, Y = (Z.drewN 0).drewN n1 := ⟨_, rfl⟩
  have hcY : ∀ B o, Y.cell? ⟨B, o, none⟩ = Z.cell? ⟨B, o, none⟩ := by intro B o; rw [hY]; rfl
  rw [← hcY] at b0 b1 b2 b3 b4 b5 b6 b7 b8 b9 b10 b11 b12 b13 q0 q1 q2 q3 q4 q5 q6 q7 q8
  have hbY : Below X.heap.size X Y := by rw [hY]; exact below_drewN (below_drewN HBZ.out _) _
  have HBY := Lib.hid hbY
  clear HBZ hcY
  try rw [← hY]
  clear hY hbY
  have hle : v = (partsOk ⟨p0, p1, p2, p3, p4, p5, p6, p7, p8⟩ ⟨kind, fr, tt, term, index, logTerm, commit, ok, ea, en, ecap, es, off, d, last, c⟩ && (decide (kind ≠ 7) || decide (logTerm ≤ term))) := HV.out
  have hvr : v = ((rowsM ⟨p0, p1, p2, p3, p4, p5, p6, p7, p8⟩ ⟨kind, fr, tt, term, index, logTerm, commit, ok, ea, en, ecap, es, off, d, last, c⟩ (if p5 then 1 else 0)).all (fun r => part3 r.1 r.2.1 r.2.2) && (decide (kind ≠ 7) || decide (logTerm ≤ term))) := by
    rw [hle, partsOk_rows]
  have hkeep : ∀ V, Below Y.heap.size Y V → (V.cell? ⟨w.heap.size, 0, none⟩ = some (.int .i64 kind) ∧ V.cell? ⟨w.heap.size, 1, none⟩ = some (.int .i64 fr) ∧ V.cell? ⟨w.heap.size, 2, none⟩ = some (.int .i64 tt) ∧ V.cell? ⟨w.heap.size, 3, none⟩ = some (.int .i64 term) ∧ V.cell? ⟨w.heap.size, 4, none⟩ = some (.int .i64 index) ∧ V.cell? ⟨w.heap.size, 5, none⟩ = some (.int .i64 logTerm) ∧ V.cell? ⟨w.heap.size, 6, none⟩ = some (.int .i64 commit) ∧ V.cell? ⟨w.heap.size, 7, none⟩ = some (.bool ok) ∧ V.cell? ⟨w.heap.size, 8, none⟩ = some (.slice ea en ecap) ∧ V.cell? ⟨w.heap.size, 9, none⟩ = some (.int .i64 off) ∧ V.cell? ⟨w.heap.size, 10, none⟩ = some (.slice d.a d.len d.cap) ∧ V.cell? ⟨w.heap.size, 11, none⟩ = some (.bool last) ∧ V.cell? ⟨w.heap.size, 12, none⟩ = some (.slice c.v.a c.v.len c.v.cap) ∧ V.cell? ⟨w.heap.size, 13, none⟩ = some (.slice c.l.a c.l.len c.l.cap)) ∧
      (V.cell? ⟨w1.heap.size, 0, none⟩ = some (.bool p0) ∧ V.cell? ⟨w1.heap.size, 1, none⟩ = some (.bool p1) ∧ V.cell? ⟨w1.heap.size, 2, none⟩ = some (.bool p2) ∧ V.cell? ⟨w1.heap.size, 3, none⟩ = some (.bool p3) ∧ V.cell? ⟨w1.heap.size, 4, none⟩ = some (.bool p4) ∧ V.cell? ⟨w1.heap.size, 5, none⟩ = some (.bool p5) ∧ V.cell? ⟨w1.heap.size, 6, none⟩ = some (.bool p6) ∧ V.cell? ⟨w1.heap.size, 7, none⟩ = some (.bool p7) ∧ V.cell? ⟨w1.heap.size, 8, none⟩ = some (.bool p8)) := fun V hV =>
    ⟨⟨keepc hV b0, keepc hV b1, keepc hV b2, keepc hV b3, keepc hV b4, keepc hV b5, keepc hV b6, keepc hV b7, keepc hV b8, keepc hV b9, keepc hV b10, keepc hV b11, keepc hV b12, keepc hV b13⟩, ⟨keepc hV q0, keepc hV q1, keepc hV q2, keepc hV q3, keepc hV q4, keepc hV q5, keepc hV q6, keepc hV q7, keepc hV q8⟩⟩
  have HKEEP := Lib.hid hkeep
  have hme := fun V (hV : Below Y.heap.size Y V) => HME.out V (below_then HBY.out hV)
  have hcr := fun V (hV : Below Y.heap.size Y V) => HCR.out V (below_then HBY.out hV)
  clear HME HCR
  have HME := Lib.hid hme
  have HCR := Lib.hid hcr
  clear hkeep hme hcr HN HBX HX HZ HB1
  clear hle
  obtain ⟨least, hleast⟩ : ∃ least : Int, least = if p5 then 1 else 0 := ⟨_, rfl⟩
  have HLEAST := Lib.hid hleast
  rw [← hleast] at hvr
  have HVR := Lib.hid hvr
  clear hvr hleast HV
  go_upto_if 50 with fail
  go_cut [5] from 49 to 50 (fun v5 wx => v5 = .int .i64 least ∧ wx = Y)
  case first =>
    have hl := HLEAST.out
    cases p5
    · have hl0 : least = 0 := hl
      subst hl0
      clear HLEAST hl
      go_wp2_with fail
      go_meet
      exact ⟨rfl, rfl⟩
    · have hl0 : least = 1 := hl
      subst hl0
      clear HLEAST hl
      go_wp2_with fail
      go_meet
      exact ⟨rfl, rfl⟩
  case rest =>
  obtain ⟨rfl, hwc⟩ := hcut
  rw [hwc]
  clear hwc wc HLEAST
  go_upto_region 7 with fail
  go_cut [141, 142, 143] from 51 to 143 (fun v141 v142 v143 wx => ∃ B, v141 = .slice (some ⟨B, 0, none⟩) 9 9 ∧ v142 = .int .i64 9 ∧ v143 = .int .i64 0 ∧ RowN wx (some ⟨B, 0, none⟩) 3 9 ((rowsM ⟨p0, p1, p2, p3, p4, p5, p6, p7, p8⟩ ⟨kind, fr, tt, term, index, logTerm, commit, ok, ea, en, ecap, es, off, d, last, c⟩ least).flatMap rowCells) ∧ Hid (Below Y.heap.size Y wx))
  case first =>
    rename_i KA hka KB hkb J J' hj hm
    clear hka hkb HVR b0 b1 b2 b3 b4 b5 b6 b7 b8 b9 b10 b11 b12 b13 q0 q1 q2 q3 q4 q5 q6 q7 q8
    simp only [List.append]
    have e1 : ((en : Int) == 0) = decide (en = 0) := by rw [Bool.eq_iff_iff, beq_iff_eq, decide_eq_true_eq]; omega
    have e2 : ((d.len : Int) == 0) = decide (d.len = 0) := by rw [Bool.eq_iff_iff, beq_iff_eq, decide_eq_true_eq]; omega
    have e3 : decide ((d.len : Int) ≤ 64) = decide (d.len ≤ 64) := by rw [decide_eq_decide]; omega
    have e4 : (IntKind.i64.wrap ((c.v.len : Int) + (c.l.len : Int)) == 0) = decide (c.v.len + c.l.len = 0) := by rw [Bool.eq_iff_iff, beq_iff_eq, decide_eq_true_eq, IntKind.wrap_i64]; omega
    have E1 := Lib.hid e1
    have E2 := Lib.hid e2
    have E3 := Lib.hid e3
    have E4 := Lib.hid e4
    clear e1 e2 e3 e4
    have HJ := Lib.hid hj
    have HMET := Lib.hid hm
    clear hj hm
    refine wp_region_fill (VR w.heap.size w1.heap.size ⟨p0, p1, p2, p3, p4, p5, p6, p7, p8⟩ ⟨kind, fr, tt, term, index, logTerm, commit, ok, ea, en, ecap, es, off, d, last, c⟩ least) 51 (by kernel_rfl) (by kernel_rfl) (Nat.le_of_ble_eq_true (by kernel_rfl)) VR.kept ?_ ?_
    rotate_left
    · intro a V hB hW hall
      refine HMET.out _ _ (Met.intro (HJ.out _ _ ?_))
      obtain ⟨u90, h90, _, hv90⟩ := hall 90 (by decide)
      obtain ⟨B, rfl, hrow⟩ := hv90 rfl
      have g141 : a.tmps.getD 141 undef = .slice (some ⟨B, 0, none⟩) 9 9 := by rw [Array.getD_eq_getD_getElem?]; exact congrArg (fun o => o.getD undef) h90
      have g142 : a.tmps.getD 142 undef = .int .i64 9 := fill_val (j := 91) (hall 91 (by decide)) (by decide) rfl
      have g143 : a.tmps.getD 143 undef = .int .i64 0 := fill_val (j := 92) (hall 92 (by decide)) (by decide) rfl
      exact ⟨a.tmps.getD 51 undef, a.tmps.getD 52 undef, a.tmps.getD 53 undef, a.tmps.getD 54 undef, a.tmps.getD 55 undef, a.tmps.getD 56 undef, a.tmps.getD 57 undef, a.tmps.getD 58 undef, a.tmps.getD 59 undef, a.tmps.getD 60 undef, a.tmps.getD 61 undef, a.tmps.getD 62 undef, a.tmps.getD 63 undef, a.tmps.getD 64 undef, a.tmps.getD 65 undef, a.tmps.getD 66 undef, a.tmps.getD 67 undef, a.tmps.getD 68 undef, a.tmps.getD 69 undef, a.tmps.getD 70 undef, a.tmps.getD 71 undef, a.tmps.getD 72 undef, a.tmps.getD 73 undef, a.tmps.getD 74 undef, a.tmps.getD 75 undef, a.tmps.getD 76 undef, a.tmps.getD 77 undef, a.tmps.getD 78 undef, a.tmps.getD 79 undef, a.tmps.getD 80 undef, a.tmps.getD 81 undef, a.tmps.getD 82 undef, a.tmps.getD 83 undef, a.tmps.getD 84 undef, a.tmps.getD 85 undef, a.tmps.getD 86 undef, a.tmps.getD 87 undef, a.tmps.getD 88 undef, a.tmps.getD 89 undef, a.tmps.getD 90 undef, a.tmps.getD 91 undef, a.tmps.getD 92 undef, a.tmps.getD 93 undef, a.tmps.getD 94 undef, a.tmps.getD 95 undef, a.tmps.getD 96 undef, a.tmps.getD 97 undef, a.tmps.getD 98 undef, a.tmps.getD 99 undef, a.tmps.getD 100 undef, a.tmps.getD 101 undef, a.tmps.getD 102 undef, a.tmps.getD 103 undef, a.tmps.getD 104 undef, a.tmps.getD 105 undef, a.tmps.getD 106 undef, a.tmps.getD 107 undef, a.tmps.getD 108 undef, a.tmps.getD 109 undef, a.tmps.getD 110 undef, a.tmps.getD 111 undef, a.tmps.getD 112 undef, a.tmps.getD 113 undef, a.tmps.getD 114 undef, a.tmps.getD 115 undef, a.tmps.getD 116 undef, a.tmps.getD 117 undef, a.tmps.getD 118 undef, a.tmps.getD 119 undef, a.tmps.getD 120 undef, a.tmps.getD 121 undef, a.tmps.getD 122 undef, a.tmps.getD 123 undef, a.tmps.getD 124 undef, a.tmps.getD 125 undef, a.tmps.getD 126 undef, a.tmps.getD 127 undef, a.tmps.getD 128 undef, a.tmps.getD 129 undef, a.tmps.getD 130 undef, a.tmps.getD 131 undef, a.tmps.getD 132 undef, a.tmps.getD 133 undef, a.tmps.getD 134 undef, a.tmps.getD 135 undef, a.tmps.getD 136 undef, a.tmps.getD 137 undef, a.tmps.getD 138 undef, a.tmps.getD 139 undef, a.tmps.getD 140 undef, a.tmps.getD 141 undef, a.tmps.getD 142 undef, a.tmps.getD 143 undef, ⟨B, g141, g142, g143, hrow, below_then (Below.refl _ _).drew hW⟩, (act_eq hB).trans (by kernel_rfl)⟩
    refine And.intro ?_ ?_
    · refine stepOk_of fun a V hB hA hW K hK => ?_
      have g3 : a.tmps.getD 3 undef = .pointer (some ⟨w1.heap.size, 0, none⟩) := by rw [Array.getD_eq_getD_getElem?, hB.2.1 3 (.inl (by decide))]; rfl
      have HK := Lib.hid hK
      clear hK hB hA hW
      go_simp
      exact HK.out _ _ ⟨fun _ => rfl, fun h => by cases h⟩ (Below.refl _ _)
    refine And.intro ?_ ?_
    · refine stepOk_of fun a V hB hA hW K hK => ?_
      have g51 : a.tmps.getD 51 undef = .pointer (some ⟨w1.heap.size, 0, none⟩) := fill_val (j := 0) (hA _ (mem_at 0 rfl)) (by decide) rfl
      have hWY := below_then (Below.refl _ _).drew hW
      obtain ⟨⟨b0, b1, b2, b3, b4, b5, b6, b7, b8, b9, b10, b11, b12, b13⟩, q0, q1, q2, q3, q4, q5, q6, q7, q8⟩ := HKEEP.out _ hWY
      have HK := Lib.hid hK
      clear hK hB hA hW
      go_simp
      exact HK.out _ _ ⟨fun _ => rfl, fun h => by cases h⟩ (Below.refl _ _)
    refine And.intro ?_ ?_
    · refine stepOk_of fun a V hB hA hW K hK => ?_
      have g1 : a.tmps.getD 1 undef = .pointer (some ⟨w.heap.size, 0, none⟩) := by rw [Array.getD_eq_getD_getElem?, hB.2.1 1 (.inl (by decide))]; rfl
      have HK := Lib.hid hK
      clear hK hB hA hW
      go_simp
      exact HK.out _ _ ⟨fun _ => rfl, fun h => by cases h⟩ (Below.refl _ _)
    refine And.intro ?_ ?_
    · refine stepOk_of fun a V hB hA hW K hK => ?_
      have g53 : a.tmps.getD 53 undef = .pointer (some ⟨w.heap.size, 4, none⟩) := fill_val (j := 2) (hA _ (mem_at 0 rfl)) (by decide) rfl
      have hWY := below_then (Below.refl _ _).drew hW
      obtain ⟨⟨b0, b1, b2, b3, b4, b5, b6, b7, b8, b9, b10, b11, b12, b13⟩, q0, q1, q2, q3, q4, q5, q6, q7, q8⟩ := HKEEP.out _ hWY
      have HK := Lib.hid hK
      clear hK hB hA hW
      go_simp
      exact HK.out _ _ ⟨fun _ => rfl, fun h => by cases h⟩ (Below.refl _ _)
    refine And.intro ?_ ?_
    · refine stepOk_of fun a V hB hA hW K hK => ?_
      have g54 : a.tmps.getD 54 undef = .int .i64 index := fill_val (j := 3) (hA _ (mem_at 0 rfl)) (by decide) rfl
      have HK := Lib.hid hK
      clear hK hB hA hW
      go_simp
      exact HK.out _ _ ⟨fun _ => rfl, fun h => by cases h⟩ (Below.refl _ _)
    refine And.intro ?_ ?_
    · refine stepOk_of fun a V hB hA hW K hK => ?_
      have g1 : a.tmps.getD 1 undef = .pointer (some ⟨w.heap.size, 0, none⟩) := by rw [Array.getD_eq_getD_getElem?, hB.2.1 1 (.inl (by decide))]; rfl
      have HK := Lib.hid hK
      clear hK hB hA hW
      go_simp
      exact HK.out _ _ ⟨fun _ => rfl, fun h => by cases h⟩ (Below.refl _ _)
    refine And.intro ?_ ?_
    · refine stepOk_of fun a V hB hA hW K hK => ?_
      have g56 : a.tmps.getD 56 undef = .pointer (some ⟨w.heap.size, 4, none⟩) := fill_val (j := 5) (hA _ (mem_at 0 rfl)) (by decide) rfl
      have hWY := below_then (Below.refl _ _).drew hW
      obtain ⟨⟨b0, b1, b2, b3, b4, b5, b6, b7, b8, b9, b10, b11, b12, b13⟩, q0, q1, q2, q3, q4, q5, q6, q7, q8⟩ := HKEEP.out _ hWY
      have HK := Lib.hid hK
      clear hK hB hA hW
      go_simp
      exact HK.out _ _ ⟨fun _ => rfl, fun h => by cases h⟩ (Below.refl _ _)
    refine And.intro ?_ ?_
    · refine stepOk_of fun a V hB hA hW K hK => ?_
      have g5 : a.tmps.getD 5 undef = .int .i64 least := by rw [Array.getD_eq_getD_getElem?, hB.2.1 5 (.inl (by decide))]; rfl
      have HK := Lib.hid hK
      clear hK hB hA hW
      go_simp
      exact HK.out _ _ ⟨fun _ => rfl, fun h => by cases h⟩ (Below.refl _ _)
    refine And.intro ?_ ?_
    · refine stepOk_of fun a V hB hA hW K hK => ?_
      have g57 : a.tmps.getD 57 undef = .int .i64 index := fill_val (j := 6) (hA _ (mem_at 0 rfl)) (by decide) rfl
      have g58 : a.tmps.getD 58 undef = .int .i64 least := fill_val (j := 7) (hA _ (mem_at 1 rfl)) (by decide) rfl
      have hWY := below_then (Below.refl _ _).drew hW
      have HK := Lib.hid hK
      clear hK hB hA hW
      go_simp
      go_at_call 36
      refine (HNB.out _ _ _).mono ?_
      rintro e yn ⟨rfl, qn, rfl⟩
      exact HK.out _ _ ⟨fun _ => rfl, fun h => by cases h⟩ (below_drewN (Below.refl _ _) _)
    refine And.intro ?_ ?_
    · refine stepOk_of fun a V hB hA hW K hK => ?_
      have g52 : a.tmps.getD 52 undef = .bool p0 := fill_val (j := 1) (hA _ (mem_at 0 rfl)) (by decide) rfl
      have g55 : a.tmps.getD 55 undef = .bool (index == 0) := fill_val (j := 4) (hA _ (mem_at 1 rfl)) (by decide) rfl
      have g59 : a.tmps.getD 59 undef = .bool (numberOf index least) := fill_val (j := 8) (hA _ (mem_at 2 rfl)) (by decide) rfl
      rw [Array.getD_eq_getD_getElem?] at g52 g55 g59
      have HK := Lib.hid hK
      clear hK hB hA hW
      go_simp
      exact HK.out _ _ ⟨fun _ => rfl, fun h => by cases h⟩ (Below.refl _ _)
    refine And.intro ?_ ?_
    · refine stepOk_of fun a V hB hA hW K hK => ?_
      have g3 : a.tmps.getD 3 undef = .pointer (some ⟨w1.heap.size, 0, none⟩) := by rw [Array.getD_eq_getD_getElem?, hB.2.1 3 (.inl (by decide))]; rfl
      have HK := Lib.hid hK
      clear hK hB hA hW
      go_simp
      exact HK.out _ _ ⟨fun _ => rfl, fun h => by cases h⟩ (Below.refl _ _)
    refine And.intro ?_ ?_
    · refine stepOk_of fun a V hB hA hW K hK => ?_
      have g61 : a.tmps.getD 61 undef = .pointer (some ⟨w1.heap.size, 1, none⟩) := fill_val (j := 10) (hA _ (mem_at 0 rfl)) (by decide) rfl
      have hWY := below_then (Below.refl _ _).drew hW
      obtain ⟨⟨b0, b1, b2, b3, b4, b5, b6, b7, b8, b9, b10, b11, b12, b13⟩, q0, q1, q2, q3, q4, q5, q6, q7, q8⟩ := HKEEP.out _ hWY
      have HK := Lib.hid hK
      clear hK hB hA hW
      go_simp
      exact HK.out _ _ ⟨fun _ => rfl, fun h => by cases h⟩ (Below.refl _ _)
    refine And.intro ?_ ?_
    · refine stepOk_of fun a V hB hA hW K hK => ?_
      have g1 : a.tmps.getD 1 undef = .pointer (some ⟨w.heap.size, 0, none⟩) := by rw [Array.getD_eq_getD_getElem?, hB.2.1 1 (.inl (by decide))]; rfl
      have HK := Lib.hid hK
      clear hK hB hA hW
      go_simp
      exact HK.out _ _ ⟨fun _ => rfl, fun h => by cases h⟩ (Below.refl _ _)
    refine And.intro ?_ ?_
    · refine stepOk_of fun a V hB hA hW K hK => ?_
      have g63 : a.tmps.getD 63 undef = .pointer (some ⟨w.heap.size, 5, none⟩) := fill_val (j := 12) (hA _ (mem_at 0 rfl)) (by decide) rfl
      have hWY := below_then (Below.refl _ _).drew hW
      obtain ⟨⟨b0, b1, b2, b3, b4, b5, b6, b7, b8, b9, b10, b11, b12, b13⟩, q0, q1, q2, q3, q4, q5, q6, q7, q8⟩ := HKEEP.out _ hWY
      have HK := Lib.hid hK
      clear hK hB hA hW
      go_simp
      exact HK.out _ _ ⟨fun _ => rfl, fun h => by cases h⟩ (Below.refl _ _)
    refine And.intro ?_ ?_
    · refine stepOk_of fun a V hB hA hW K hK => ?_
      have g64 : a.tmps.getD 64 undef = .int .i64 logTerm := fill_val (j := 13) (hA _ (mem_at 0 rfl)) (by decide) rfl
      have HK := Lib.hid hK
      clear hK hB hA hW
      go_simp
      exact HK.out _ _ ⟨fun _ => rfl, fun h => by cases h⟩ (Below.refl _ _)
    refine And.intro ?_ ?_
    · refine stepOk_of fun a V hB hA hW K hK => ?_
      have g1 : a.tmps.getD 1 undef = .pointer (some ⟨w.heap.size, 0, none⟩) := by rw [Array.getD_eq_getD_getElem?, hB.2.1 1 (.inl (by decide))]; rfl
      have HK := Lib.hid hK
      clear hK hB hA hW
      go_simp
      exact HK.out _ _ ⟨fun _ => rfl, fun h => by cases h⟩ (Below.refl _ _)
    refine And.intro ?_ ?_
    · refine stepOk_of fun a V hB hA hW K hK => ?_
      have g66 : a.tmps.getD 66 undef = .pointer (some ⟨w.heap.size, 5, none⟩) := fill_val (j := 15) (hA _ (mem_at 0 rfl)) (by decide) rfl
      have hWY := below_then (Below.refl _ _).drew hW
      obtain ⟨⟨b0, b1, b2, b3, b4, b5, b6, b7, b8, b9, b10, b11, b12, b13⟩, q0, q1, q2, q3, q4, q5, q6, q7, q8⟩ := HKEEP.out _ hWY
      have HK := Lib.hid hK
      clear hK hB hA hW
      go_simp
      exact HK.out _ _ ⟨fun _ => rfl, fun h => by cases h⟩ (Below.refl _ _)
    refine And.intro ?_ ?_
    · refine stepOk_of fun a V hB hA hW K hK => ?_
      have g67 : a.tmps.getD 67 undef = .int .i64 logTerm := fill_val (j := 16) (hA _ (mem_at 0 rfl)) (by decide) rfl
      have hWY := below_then (Below.refl _ _).drew hW
      have HK := Lib.hid hK
      clear hK hB hA hW
      go_simp
      go_at_call 36
      refine (HNB.out _ _ _).mono ?_
      rintro e yn ⟨rfl, qn, rfl⟩
      exact HK.out _ _ ⟨fun _ => rfl, fun h => by cases h⟩ (below_drewN (Below.refl _ _) _)
    refine And.intro ?_ ?_
    · refine stepOk_of fun a V hB hA hW K hK => ?_
      have g62 : a.tmps.getD 62 undef = .bool p1 := fill_val (j := 11) (hA _ (mem_at 0 rfl)) (by decide) rfl
      have g65 : a.tmps.getD 65 undef = .bool (logTerm == 0) := fill_val (j := 14) (hA _ (mem_at 1 rfl)) (by decide) rfl
      have g68 : a.tmps.getD 68 undef = .bool (numberOf logTerm 0) := fill_val (j := 17) (hA _ (mem_at 2 rfl)) (by decide) rfl
      rw [Array.getD_eq_getD_getElem?] at g62 g65 g68
      have HK := Lib.hid hK
      clear hK hB hA hW
      go_simp
      exact HK.out _ _ ⟨fun _ => rfl, fun h => by cases h⟩ (Below.refl _ _)
    refine And.intro ?_ ?_
    · refine stepOk_of fun a V hB hA hW K hK => ?_
      have g3 : a.tmps.getD 3 undef = .pointer (some ⟨w1.heap.size, 0, none⟩) := by rw [Array.getD_eq_getD_getElem?, hB.2.1 3 (.inl (by decide))]; rfl
      have HK := Lib.hid hK
      clear hK hB hA hW
      go_simp
      exact HK.out _ _ ⟨fun _ => rfl, fun h => by cases h⟩ (Below.refl _ _)
    refine And.intro ?_ ?_
    · refine stepOk_of fun a V hB hA hW K hK => ?_
      have g70 : a.tmps.getD 70 undef = .pointer (some ⟨w1.heap.size, 2, none⟩) := fill_val (j := 19) (hA _ (mem_at 0 rfl)) (by decide) rfl
      have hWY := below_then (Below.refl _ _).drew hW
      obtain ⟨⟨b0, b1, b2, b3, b4, b5, b6, b7, b8, b9, b10, b11, b12, b13⟩, q0, q1, q2, q3, q4, q5, q6, q7, q8⟩ := HKEEP.out _ hWY
      have HK := Lib.hid hK
      clear hK hB hA hW
      go_simp
      exact HK.out _ _ ⟨fun _ => rfl, fun h => by cases h⟩ (Below.refl _ _)
    refine And.intro ?_ ?_
    · refine stepOk_of fun a V hB hA hW K hK => ?_
      have g1 : a.tmps.getD 1 undef = .pointer (some ⟨w.heap.size, 0, none⟩) := by rw [Array.getD_eq_getD_getElem?, hB.2.1 1 (.inl (by decide))]; rfl
      have HK := Lib.hid hK
      clear hK hB hA hW
      go_simp
      exact HK.out _ _ ⟨fun _ => rfl, fun h => by cases h⟩ (Below.refl _ _)
    refine And.intro ?_ ?_
    · refine stepOk_of fun a V hB hA hW K hK => ?_
      have g72 : a.tmps.getD 72 undef = .pointer (some ⟨w.heap.size, 6, none⟩) := fill_val (j := 21) (hA _ (mem_at 0 rfl)) (by decide) rfl
      have hWY := below_then (Below.refl _ _).drew hW
      obtain ⟨⟨b0, b1, b2, b3, b4, b5, b6, b7, b8, b9, b10, b11, b12, b13⟩, q0, q1, q2, q3, q4, q5, q6, q7, q8⟩ := HKEEP.out _ hWY
      have HK := Lib.hid hK
      clear hK hB hA hW
      go_simp
      exact HK.out _ _ ⟨fun _ => rfl, fun h => by cases h⟩ (Below.refl _ _)
    refine And.intro ?_ ?_
    · refine stepOk_of fun a V hB hA hW K hK => ?_
      have g73 : a.tmps.getD 73 undef = .int .i64 commit := fill_val (j := 22) (hA _ (mem_at 0 rfl)) (by decide) rfl
      have HK := Lib.hid hK
      clear hK hB hA hW
      go_simp
      exact HK.out _ _ ⟨fun _ => rfl, fun h => by cases h⟩ (Below.refl _ _)
    refine And.intro ?_ ?_
    · refine stepOk_of fun a V hB hA hW K hK => ?_
      have g1 : a.tmps.getD 1 undef = .pointer (some ⟨w.heap.size, 0, none⟩) := by rw [Array.getD_eq_getD_getElem?, hB.2.1 1 (.inl (by decide))]; rfl
      have HK := Lib.hid hK
      clear hK hB hA hW
      go_simp
      exact HK.out _ _ ⟨fun _ => rfl, fun h => by cases h⟩ (Below.refl _ _)
    refine And.intro ?_ ?_
    · refine stepOk_of fun a V hB hA hW K hK => ?_
      have g75 : a.tmps.getD 75 undef = .pointer (some ⟨w.heap.size, 6, none⟩) := fill_val (j := 24) (hA _ (mem_at 0 rfl)) (by decide) rfl
      have hWY := below_then (Below.refl _ _).drew hW
      obtain ⟨⟨b0, b1, b2, b3, b4, b5, b6, b7, b8, b9, b10, b11, b12, b13⟩, q0, q1, q2, q3, q4, q5, q6, q7, q8⟩ := HKEEP.out _ hWY
      have HK := Lib.hid hK
      clear hK hB hA hW
      go_simp
      exact HK.out _ _ ⟨fun _ => rfl, fun h => by cases h⟩ (Below.refl _ _)
    refine And.intro ?_ ?_
    · refine stepOk_of fun a V hB hA hW K hK => ?_
      have g76 : a.tmps.getD 76 undef = .int .i64 commit := fill_val (j := 25) (hA _ (mem_at 0 rfl)) (by decide) rfl
      have hWY := below_then (Below.refl _ _).drew hW
      have HK := Lib.hid hK
      clear hK hB hA hW
      go_simp
      go_at_call 36
      refine (HNB.out _ _ _).mono ?_
      rintro e yn ⟨rfl, qn, rfl⟩
      exact HK.out _ _ ⟨fun _ => rfl, fun h => by cases h⟩ (below_drewN (Below.refl _ _) _)
    refine And.intro ?_ ?_
    · refine stepOk_of fun a V hB hA hW K hK => ?_
      have g71 : a.tmps.getD 71 undef = .bool p2 := fill_val (j := 20) (hA _ (mem_at 0 rfl)) (by decide) rfl
      have g74 : a.tmps.getD 74 undef = .bool (commit == 0) := fill_val (j := 23) (hA _ (mem_at 1 rfl)) (by decide) rfl
      have g77 : a.tmps.getD 77 undef = .bool (numberOf commit 0) := fill_val (j := 26) (hA _ (mem_at 2 rfl)) (by decide) rfl
      rw [Array.getD_eq_getD_getElem?] at g71 g74 g77
      have HK := Lib.hid hK
      clear hK hB hA hW
      go_simp
      exact HK.out _ _ ⟨fun _ => rfl, fun h => by cases h⟩ (Below.refl _ _)
    refine And.intro ?_ ?_
    · refine stepOk_of fun a V hB hA hW K hK => ?_
      have g3 : a.tmps.getD 3 undef = .pointer (some ⟨w1.heap.size, 0, none⟩) := by rw [Array.getD_eq_getD_getElem?, hB.2.1 3 (.inl (by decide))]; rfl
      have HK := Lib.hid hK
      clear hK hB hA hW
      go_simp
      exact HK.out _ _ ⟨fun _ => rfl, fun h => by cases h⟩ (Below.refl _ _)
    refine And.intro ?_ ?_
    · refine stepOk_of fun a V hB hA hW K hK => ?_
      have g79 : a.tmps.getD 79 undef = .pointer (some ⟨w1.heap.size, 3, none⟩) := fill_val (j := 28) (hA _ (mem_at 0 rfl)) (by decide) rfl
      have hWY := below_then (Below.refl _ _).drew hW
      obtain ⟨⟨b0, b1, b2, b3, b4, b5, b6, b7, b8, b9, b10, b11, b12, b13⟩, q0, q1, q2, q3, q4, q5, q6, q7, q8⟩ := HKEEP.out _ hWY
      have HK := Lib.hid hK
      clear hK hB hA hW
      go_simp
      exact HK.out _ _ ⟨fun _ => rfl, fun h => by cases h⟩ (Below.refl _ _)
    refine And.intro ?_ ?_
    · refine stepOk_of fun a V hB hA hW K hK => ?_
      have g1 : a.tmps.getD 1 undef = .pointer (some ⟨w.heap.size, 0, none⟩) := by rw [Array.getD_eq_getD_getElem?, hB.2.1 1 (.inl (by decide))]; rfl
      have HK := Lib.hid hK
      clear hK hB hA hW
      go_simp
      exact HK.out _ _ ⟨fun _ => rfl, fun h => by cases h⟩ (Below.refl _ _)
    refine And.intro ?_ ?_
    · refine stepOk_of fun a V hB hA hW K hK => ?_
      have g81 : a.tmps.getD 81 undef = .pointer (some ⟨w.heap.size, 7, none⟩) := fill_val (j := 30) (hA _ (mem_at 0 rfl)) (by decide) rfl
      have hWY := below_then (Below.refl _ _).drew hW
      obtain ⟨⟨b0, b1, b2, b3, b4, b5, b6, b7, b8, b9, b10, b11, b12, b13⟩, q0, q1, q2, q3, q4, q5, q6, q7, q8⟩ := HKEEP.out _ hWY
      have HK := Lib.hid hK
      clear hK hB hA hW
      go_simp
      exact HK.out _ _ ⟨fun _ => rfl, fun h => by cases h⟩ (Below.refl _ _)
    refine And.intro ?_ ?_
    · refine stepOk_of fun a V hB hA hW K hK => ?_
      have g82 : a.tmps.getD 82 undef = .bool ok := fill_val (j := 31) (hA _ (mem_at 0 rfl)) (by decide) rfl
      have HK := Lib.hid hK
      clear hK hB hA hW
      go_simp
      exact HK.out _ _ ⟨fun _ => rfl, fun h => by cases h⟩ (Below.refl _ _)
    refine And.intro ?_ ?_
    · refine stepOk_of fun a V hB hA hW K hK => ?_
      have g80 : a.tmps.getD 80 undef = .bool p3 := fill_val (j := 29) (hA _ (mem_at 0 rfl)) (by decide) rfl
      have g83 : a.tmps.getD 83 undef = .bool (!ok) := fill_val (j := 32) (hA _ (mem_at 1 rfl)) (by decide) rfl
      rw [Array.getD_eq_getD_getElem?] at g80 g83
      have HK := Lib.hid hK
      clear hK hB hA hW
      go_simp
      exact HK.out _ _ ⟨fun _ => rfl, fun h => by cases h⟩ (Below.refl _ _)
    refine And.intro ?_ ?_
    · refine stepOk_of fun a V hB hA hW K hK => ?_
      have g3 : a.tmps.getD 3 undef = .pointer (some ⟨w1.heap.size, 0, none⟩) := by rw [Array.getD_eq_getD_getElem?, hB.2.1 3 (.inl (by decide))]; rfl
      have HK := Lib.hid hK
      clear hK hB hA hW
      go_simp
      exact HK.out _ _ ⟨fun _ => rfl, fun h => by cases h⟩ (Below.refl _ _)
    refine And.intro ?_ ?_
    · refine stepOk_of fun a V hB hA hW K hK => ?_
      have g85 : a.tmps.getD 85 undef = .pointer (some ⟨w1.heap.size, 4, none⟩) := fill_val (j := 34) (hA _ (mem_at 0 rfl)) (by decide) rfl
      have hWY := below_then (Below.refl _ _).drew hW
      obtain ⟨⟨b0, b1, b2, b3, b4, b5, b6, b7, b8, b9, b10, b11, b12, b13⟩, q0, q1, q2, q3, q4, q5, q6, q7, q8⟩ := HKEEP.out _ hWY
      have HK := Lib.hid hK
      clear hK hB hA hW
      go_simp
      exact HK.out _ _ ⟨fun _ => rfl, fun h => by cases h⟩ (Below.refl _ _)
    refine And.intro ?_ ?_
    · refine stepOk_of fun a V hB hA hW K hK => ?_
      have g1 : a.tmps.getD 1 undef = .pointer (some ⟨w.heap.size, 0, none⟩) := by rw [Array.getD_eq_getD_getElem?, hB.2.1 1 (.inl (by decide))]; rfl
      have HK := Lib.hid hK
      clear hK hB hA hW
      go_simp
      exact HK.out _ _ ⟨fun _ => rfl, fun h => by cases h⟩ (Below.refl _ _)
    refine And.intro ?_ ?_
    · refine stepOk_of fun a V hB hA hW K hK => ?_
      have g87 : a.tmps.getD 87 undef = .pointer (some ⟨w.heap.size, 8, none⟩) := fill_val (j := 36) (hA _ (mem_at 0 rfl)) (by decide) rfl
      have hWY := below_then (Below.refl _ _).drew hW
      obtain ⟨⟨b0, b1, b2, b3, b4, b5, b6, b7, b8, b9, b10, b11, b12, b13⟩, q0, q1, q2, q3, q4, q5, q6, q7, q8⟩ := HKEEP.out _ hWY
      have HK := Lib.hid hK
      clear hK hB hA hW
      go_simp
      exact HK.out _ _ ⟨fun _ => rfl, fun h => by cases h⟩ (Below.refl _ _)
    refine And.intro ?_ ?_
    · refine stepOk_of fun a V hB hA hW K hK => ?_
      have g88 : a.tmps.getD 88 undef = .slice ea en ecap := fill_val (j := 37) (hA _ (mem_at 0 rfl)) (by decide) rfl
      have hWY := below_then (Below.refl _ _).drew hW
      have HK := Lib.hid hK
      clear hK hB hA hW
      go_simp
      exact HK.out _ _ ⟨fun _ => rfl, fun h => by cases h⟩ (Below.refl _ _)
    refine And.intro ?_ ?_
    · refine stepOk_of fun a V hB hA hW K hK => ?_
      have g89 : a.tmps.getD 89 undef = .int .i64 ((en : Nat) : Int) := fill_val (j := 38) (hA _ (mem_at 0 rfl)) (by decide) rfl
      have HK := Lib.hid hK
      clear hK hB hA hW
      go_simp
      exact HK.out _ _ ⟨fun _ => rfl, fun h => by cases h⟩ (Below.refl _ _)
    refine And.intro ?_ ?_
    · refine stepOk_of fun a V hB hA hW K hK => ?_
      have g1 : a.tmps.getD 1 undef = .pointer (some ⟨w.heap.size, 0, none⟩) := by rw [Array.getD_eq_getD_getElem?, hB.2.1 1 (.inl (by decide))]; rfl
      have hWY := below_then (Below.refl _ _).drew hW
      obtain ⟨⟨b0, b1, b2, b3, b4, b5, b6, b7, b8, b9, b10, b11, b12, b13⟩, q0, q1, q2, q3, q4, q5, q6, q7, q8⟩ := HKEEP.out _ hWY
      have HK := Lib.hid hK
      clear hK hB hA hW
      go_simp
      exact HK.out _ _ ⟨fun _ => rfl, fun h => by cases h⟩ (Below.refl _ _)
    refine And.intro ?_ ?_
    · refine stepOk_of fun a V hB hA hW K hK => ?_
      have g91 : a.tmps.getD 91 undef = .agg #[.int .i64 kind, .int .i64 fr, .int .i64 tt, .int .i64 term, .int .i64 index, .int .i64 logTerm, .int .i64 commit, .bool ok, .slice ea en ecap, .int .i64 off, .slice d.a d.len d.cap, .bool last, .slice c.v.a c.v.len c.v.cap, .slice c.l.a c.l.len c.l.cap] := fill_val (j := 40) (hA _ (mem_at 0 rfl)) (by decide) rfl
      have hWY := below_then (Below.refl _ _).drew hW
      have HK := Lib.hid hK
      clear hK hB hA hW
      go_simp
      go_at_call 37
      refine (HME.out _ hWY).mono ?_
      rintro e y4 ⟨rfl, hb4⟩
      exact HK.out _ _ ⟨fun _ => rfl, fun h => by cases h⟩ (hb4)
    refine And.intro ?_ ?_
    · refine stepOk_of fun a V hB hA hW K hK => ?_
      have g86 : a.tmps.getD 86 undef = .bool p4 := fill_val (j := 35) (hA _ (mem_at 0 rfl)) (by decide) rfl
      have g90 : a.tmps.getD 90 undef = .bool (((en : Nat) : Int) == 0) := fill_val (j := 39) (hA _ (mem_at 1 rfl)) (by decide) rfl
      have g92 : a.tmps.getD 92 undef = .bool (mEnts term index logTerm es && decide (en ≤ 8)) := fill_val (j := 41) (hA _ (mem_at 2 rfl)) (by decide) rfl
      rw [Array.getD_eq_getD_getElem?] at g86 g90 g92
      have HK := Lib.hid hK
      clear hK hB hA hW
      go_simp
      exact HK.out _ _ ⟨fun _ => rfl, fun h => by cases h⟩ (Below.refl _ _)
    refine And.intro ?_ ?_
    · refine stepOk_of fun a V hB hA hW K hK => ?_
      have g3 : a.tmps.getD 3 undef = .pointer (some ⟨w1.heap.size, 0, none⟩) := by rw [Array.getD_eq_getD_getElem?, hB.2.1 3 (.inl (by decide))]; rfl
      have HK := Lib.hid hK
      clear hK hB hA hW
      go_simp
      exact HK.out _ _ ⟨fun _ => rfl, fun h => by cases h⟩ (Below.refl _ _)
    refine And.intro ?_ ?_
    · refine stepOk_of fun a V hB hA hW K hK => ?_
      have g94 : a.tmps.getD 94 undef = .pointer (some ⟨w1.heap.size, 5, none⟩) := fill_val (j := 43) (hA _ (mem_at 0 rfl)) (by decide) rfl
      have hWY := below_then (Below.refl _ _).drew hW
      obtain ⟨⟨b0, b1, b2, b3, b4, b5, b6, b7, b8, b9, b10, b11, b12, b13⟩, q0, q1, q2, q3, q4, q5, q6, q7, q8⟩ := HKEEP.out _ hWY
      have HK := Lib.hid hK
      clear hK hB hA hW
      go_simp
      exact HK.out _ _ ⟨fun _ => rfl, fun h => by cases h⟩ (Below.refl _ _)
    refine And.intro ?_ ?_
    · refine stepOk_of fun a V hB hA hW K hK => ?_
      have g1 : a.tmps.getD 1 undef = .pointer (some ⟨w.heap.size, 0, none⟩) := by rw [Array.getD_eq_getD_getElem?, hB.2.1 1 (.inl (by decide))]; rfl
      have HK := Lib.hid hK
      clear hK hB hA hW
      go_simp
      exact HK.out _ _ ⟨fun _ => rfl, fun h => by cases h⟩ (Below.refl _ _)
    refine And.intro ?_ ?_
    · refine stepOk_of fun a V hB hA hW K hK => ?_
      have g96 : a.tmps.getD 96 undef = .pointer (some ⟨w.heap.size, 9, none⟩) := fill_val (j := 45) (hA _ (mem_at 0 rfl)) (by decide) rfl
      have hWY := below_then (Below.refl _ _).drew hW
      obtain ⟨⟨b0, b1, b2, b3, b4, b5, b6, b7, b8, b9, b10, b11, b12, b13⟩, q0, q1, q2, q3, q4, q5, q6, q7, q8⟩ := HKEEP.out _ hWY
      have HK := Lib.hid hK
      clear hK hB hA hW
      go_simp
      exact HK.out _ _ ⟨fun _ => rfl, fun h => by cases h⟩ (Below.refl _ _)
    refine And.intro ?_ ?_
    · refine stepOk_of fun a V hB hA hW K hK => ?_
      have g97 : a.tmps.getD 97 undef = .int .i64 off := fill_val (j := 46) (hA _ (mem_at 0 rfl)) (by decide) rfl
      have HK := Lib.hid hK
      clear hK hB hA hW
      go_simp
      exact HK.out _ _ ⟨fun _ => rfl, fun h => by cases h⟩ (Below.refl _ _)
    refine And.intro ?_ ?_
    · refine stepOk_of fun a V hB hA hW K hK => ?_
      have g1 : a.tmps.getD 1 undef = .pointer (some ⟨w.heap.size, 0, none⟩) := by rw [Array.getD_eq_getD_getElem?, hB.2.1 1 (.inl (by decide))]; rfl
      have HK := Lib.hid hK
      clear hK hB hA hW
      go_simp
      exact HK.out _ _ ⟨fun _ => rfl, fun h => by cases h⟩ (Below.refl _ _)
    refine And.intro ?_ ?_
    · refine stepOk_of fun a V hB hA hW K hK => ?_
      have g99 : a.tmps.getD 99 undef = .pointer (some ⟨w.heap.size, 9, none⟩) := fill_val (j := 48) (hA _ (mem_at 0 rfl)) (by decide) rfl
      have hWY := below_then (Below.refl _ _).drew hW
      obtain ⟨⟨b0, b1, b2, b3, b4, b5, b6, b7, b8, b9, b10, b11, b12, b13⟩, q0, q1, q2, q3, q4, q5, q6, q7, q8⟩ := HKEEP.out _ hWY
      have HK := Lib.hid hK
      clear hK hB hA hW
      go_simp
      exact HK.out _ _ ⟨fun _ => rfl, fun h => by cases h⟩ (Below.refl _ _)
    refine And.intro ?_ ?_
    · refine stepOk_of fun a V hB hA hW K hK => ?_
      have g100 : a.tmps.getD 100 undef = .int .i64 off := fill_val (j := 49) (hA _ (mem_at 0 rfl)) (by decide) rfl
      have HK := Lib.hid hK
      clear hK hB hA hW
      go_simp
      exact HK.out _ _ ⟨fun _ => rfl, fun h => by cases h⟩ (Below.refl _ _)
    refine And.intro ?_ ?_
    · refine stepOk_of fun a V hB hA hW K hK => ?_
      have g101 : a.tmps.getD 101 undef = .bool (decide (0 ≤ off)) := fill_val (j := 50) (hA _ (mem_at 0 rfl)) (by decide) rfl
      have HK := Lib.hid hK
      clear hK hB hA hW
      go_simp
      exact HK.out _ _ ⟨fun _ => rfl, fun h => by cases h⟩ (Below.refl _ _)
    refine And.intro ?_ ?_
    · refine stepOk_of fun a V hB hA hW K hK => ?_
      by_cases h9 : 0 ≤ off
      · have g1 : a.tmps.getD 1 undef = .pointer (some ⟨w.heap.size, 0, none⟩) := by rw [Array.getD_eq_getD_getElem?, hB.2.1 1 (.inl (by decide))]; rfl
        have HK := Lib.hid hK
        have hw : boolAt 51 a.tmps 51 = some true := fill_bool (j := 51) (hA _ (mem_at 0 rfl)) (by decide) (congrArg (fun b => some (Value.bool b)) (decide_eq_true h9))
        clear hK hB hA hW
        go_simp
        exact HK.out _ _ ⟨fun _ => congrArg some (if_pos h9), fun h => by cases h⟩ (Below.refl _ _)
      · have hw : boolAt 51 a.tmps 51 = some false := fill_bool (j := 51) (hA _ (mem_at 0 rfl)) (by decide) (congrArg (fun b => some (Value.bool b)) (decide_eq_false h9))
        clear hK hB hA hW
        go_simp
        exact ⟨fun _ => congrArg some (if_neg h9), fun h => by cases h⟩
    refine And.intro ?_ ?_
    · refine stepOk_of fun a V hB hA hW K hK => ?_
      by_cases h9 : 0 ≤ off
      · have g103 : a.tmps.getD 103 undef = .pointer (some ⟨w.heap.size, 9, none⟩) := fill_val (j := 52) (hA _ (mem_at 0 rfl)) (by decide) (congrArg some (if_pos h9))
        have hWY := below_then (Below.refl _ _).drew hW
        obtain ⟨⟨b0, b1, b2, b3, b4, b5, b6, b7, b8, b9, b10, b11, b12, b13⟩, q0, q1, q2, q3, q4, q5, q6, q7, q8⟩ := HKEEP.out _ hWY
        have HK := Lib.hid hK
        have hw : boolAt 51 a.tmps 51 = some true := fill_bool (j := 51) (hA _ (mem_at 1 rfl)) (by decide) (congrArg (fun b => some (Value.bool b)) (decide_eq_true h9))
        clear hK hB hA hW
        go_simp
        exact HK.out _ _ ⟨fun _ => congrArg some (if_pos h9), fun h => by cases h⟩ (Below.refl _ _)
      · have hw : boolAt 51 a.tmps 51 = some false := fill_bool (j := 51) (hA _ (mem_at 1 rfl)) (by decide) (congrArg (fun b => some (Value.bool b)) (decide_eq_false h9))
        clear hK hB hA hW
        go_simp
        exact ⟨fun _ => congrArg some (if_neg h9), fun h => by cases h⟩
    refine And.intro ?_ ?_
    · refine stepOk_of fun a V hB hA hW K hK => ?_
      by_cases h9 : 0 ≤ off
      · have g104 : a.tmps.getD 104 undef = .int .i64 off := fill_val (j := 53) (hA _ (mem_at 0 rfl)) (by decide) (congrArg some (if_pos h9))
        have HK := Lib.hid hK
        have hw : boolAt 51 a.tmps 51 = some true := fill_bool (j := 51) (hA _ (mem_at 1 rfl)) (by decide) (congrArg (fun b => some (Value.bool b)) (decide_eq_true h9))
        clear hK hB hA hW
        go_simp
        exact HK.out _ _ ⟨fun _ => congrArg some (if_pos h9), fun h => by cases h⟩ (Below.refl _ _)
      · have hw : boolAt 51 a.tmps 51 = some false := fill_bool (j := 51) (hA _ (mem_at 1 rfl)) (by decide) (congrArg (fun b => some (Value.bool b)) (decide_eq_false h9))
        clear hK hB hA hW
        go_simp
        exact ⟨fun _ => congrArg some (if_neg h9), fun h => by cases h⟩
    refine And.intro ?_ ?_
    · refine stepOk_of fun a V hB hA hW K hK => ?_
      by_cases h9 : 0 ≤ off
      · have g102 : a.tmps.getD 102 undef = .bool true := fill_val (j := 51) (hA _ (mem_at 0 rfl)) (by decide) (congrArg (fun b => some (Value.bool b)) (decide_eq_true h9))
        have g105 : a.tmps.getD 105 undef = .bool (decide (off ≤ 32768)) := fill_val (j := 54) (hA _ (mem_at 1 rfl)) (by decide) (congrArg some (if_pos h9))
        have HK := Lib.hid hK
        clear hK hB hA hW
        go_simp
        exact HK.out _ _ ⟨fun _ => congrArg (fun b => some (Value.bool b)) (by simp [h9]), fun h => by cases h⟩ (Below.refl _ _)
      · have g102 : a.tmps.getD 102 undef = .bool false := fill_val (j := 51) (hA _ (mem_at 0 rfl)) (by decide) (congrArg (fun b => some (Value.bool b)) (decide_eq_false h9))
        have HK := Lib.hid hK
        clear hK hB hA hW
        go_simp
        exact HK.out _ _ ⟨fun _ => congrArg (fun b => some (Value.bool b)) (by simp [h9]), fun h => by cases h⟩ (Below.refl _ _)
    refine And.intro ?_ ?_
    · refine stepOk_of fun a V hB hA hW K hK => ?_
      have g95 : a.tmps.getD 95 undef = .bool p5 := fill_val (j := 44) (hA _ (mem_at 0 rfl)) (by decide) rfl
      have g98 : a.tmps.getD 98 undef = .bool (off == 0) := fill_val (j := 47) (hA _ (mem_at 1 rfl)) (by decide) rfl
      have g106 : a.tmps.getD 106 undef = .bool (decide (0 ≤ off) && decide (off ≤ 32768)) := fill_val (j := 55) (hA _ (mem_at 2 rfl)) (by decide) rfl
      rw [Array.getD_eq_getD_getElem?] at g95 g98 g106
      have HK := Lib.hid hK
      clear hK hB hA hW
      go_simp
      exact HK.out _ _ ⟨fun _ => rfl, fun h => by cases h⟩ (Below.refl _ _)
    refine And.intro ?_ ?_
    · refine stepOk_of fun a V hB hA hW K hK => ?_
      have g3 : a.tmps.getD 3 undef = .pointer (some ⟨w1.heap.size, 0, none⟩) := by rw [Array.getD_eq_getD_getElem?, hB.2.1 3 (.inl (by decide))]; rfl
      have HK := Lib.hid hK
      clear hK hB hA hW
      go_simp
      exact HK.out _ _ ⟨fun _ => rfl, fun h => by cases h⟩ (Below.refl _ _)
    refine And.intro ?_ ?_
    · refine stepOk_of fun a V hB hA hW K hK => ?_
      have g108 : a.tmps.getD 108 undef = .pointer (some ⟨w1.heap.size, 6, none⟩) := fill_val (j := 57) (hA _ (mem_at 0 rfl)) (by decide) rfl
      have hWY := below_then (Below.refl _ _).drew hW
      obtain ⟨⟨b0, b1, b2, b3, b4, b5, b6, b7, b8, b9, b10, b11, b12, b13⟩, q0, q1, q2, q3, q4, q5, q6, q7, q8⟩ := HKEEP.out _ hWY
      have HK := Lib.hid hK
      clear hK hB hA hW
      go_simp
      exact HK.out _ _ ⟨fun _ => rfl, fun h => by cases h⟩ (Below.refl _ _)
    refine And.intro ?_ ?_
    · refine stepOk_of fun a V hB hA hW K hK => ?_
      have g1 : a.tmps.getD 1 undef = .pointer (some ⟨w.heap.size, 0, none⟩) := by rw [Array.getD_eq_getD_getElem?, hB.2.1 1 (.inl (by decide))]; rfl
      have HK := Lib.hid hK
      clear hK hB hA hW
      go_simp
      exact HK.out _ _ ⟨fun _ => rfl, fun h => by cases h⟩ (Below.refl _ _)
    refine And.intro ?_ ?_
    · refine stepOk_of fun a V hB hA hW K hK => ?_
      have g110 : a.tmps.getD 110 undef = .pointer (some ⟨w.heap.size, 10, none⟩) := fill_val (j := 59) (hA _ (mem_at 0 rfl)) (by decide) rfl
      have hWY := below_then (Below.refl _ _).drew hW
      obtain ⟨⟨b0, b1, b2, b3, b4, b5, b6, b7, b8, b9, b10, b11, b12, b13⟩, q0, q1, q2, q3, q4, q5, q6, q7, q8⟩ := HKEEP.out _ hWY
      have HK := Lib.hid hK
      clear hK hB hA hW
      go_simp
      exact HK.out _ _ ⟨fun _ => rfl, fun h => by cases h⟩ (Below.refl _ _)
    refine And.intro ?_ ?_
    · refine stepOk_of fun a V hB hA hW K hK => ?_
      have g111 : a.tmps.getD 111 undef = .slice d.a d.len d.cap := fill_val (j := 60) (hA _ (mem_at 0 rfl)) (by decide) rfl
      have hWY := below_then (Below.refl _ _).drew hW
      have HK := Lib.hid hK
      clear hK hB hA hW
      go_simp
      exact HK.out _ _ ⟨fun _ => rfl, fun h => by cases h⟩ (Below.refl _ _)
    refine And.intro ?_ ?_
    · refine stepOk_of fun a V hB hA hW K hK => ?_
      have g112 : a.tmps.getD 112 undef = .int .i64 ((d.len : Nat) : Int) := fill_val (j := 61) (hA _ (mem_at 0 rfl)) (by decide) rfl
      have HK := Lib.hid hK
      clear hK hB hA hW
      go_simp
      exact HK.out _ _ ⟨fun _ => rfl, fun h => by cases h⟩ (Below.refl _ _)
    refine And.intro ?_ ?_
    · refine stepOk_of fun a V hB hA hW K hK => ?_
      have g1 : a.tmps.getD 1 undef = .pointer (some ⟨w.heap.size, 0, none⟩) := by rw [Array.getD_eq_getD_getElem?, hB.2.1 1 (.inl (by decide))]; rfl
      have HK := Lib.hid hK
      clear hK hB hA hW
      go_simp
      exact HK.out _ _ ⟨fun _ => rfl, fun h => by cases h⟩ (Below.refl _ _)
    refine And.intro ?_ ?_
    · refine stepOk_of fun a V hB hA hW K hK => ?_
      have g114 : a.tmps.getD 114 undef = .pointer (some ⟨w.heap.size, 10, none⟩) := fill_val (j := 63) (hA _ (mem_at 0 rfl)) (by decide) rfl
      have hWY := below_then (Below.refl _ _).drew hW
      obtain ⟨⟨b0, b1, b2, b3, b4, b5, b6, b7, b8, b9, b10, b11, b12, b13⟩, q0, q1, q2, q3, q4, q5, q6, q7, q8⟩ := HKEEP.out _ hWY
      have HK := Lib.hid hK
      clear hK hB hA hW
      go_simp
      exact HK.out _ _ ⟨fun _ => rfl, fun h => by cases h⟩ (Below.refl _ _)
    refine And.intro ?_ ?_
    · refine stepOk_of fun a V hB hA hW K hK => ?_
      have g115 : a.tmps.getD 115 undef = .slice d.a d.len d.cap := fill_val (j := 64) (hA _ (mem_at 0 rfl)) (by decide) rfl
      have hWY := below_then (Below.refl _ _).drew hW
      have HK := Lib.hid hK
      clear hK hB hA hW
      go_simp
      exact HK.out _ _ ⟨fun _ => rfl, fun h => by cases h⟩ (Below.refl _ _)
    refine And.intro ?_ ?_
    · refine stepOk_of fun a V hB hA hW K hK => ?_
      have g116 : a.tmps.getD 116 undef = .int .i64 ((d.len : Nat) : Int) := fill_val (j := 65) (hA _ (mem_at 0 rfl)) (by decide) rfl
      have HK := Lib.hid hK
      clear hK hB hA hW
      go_simp
      exact HK.out _ _ ⟨fun _ => rfl, fun h => by cases h⟩ (Below.refl _ _)
    refine And.intro ?_ ?_
    · refine stepOk_of fun a V hB hA hW K hK => ?_
      have g109 : a.tmps.getD 109 undef = .bool p6 := fill_val (j := 58) (hA _ (mem_at 0 rfl)) (by decide) rfl
      have g113 : a.tmps.getD 113 undef = .bool (((d.len : Nat) : Int) == 0) := fill_val (j := 62) (hA _ (mem_at 1 rfl)) (by decide) rfl
      have g117 : a.tmps.getD 117 undef = .bool (decide (((d.len : Nat) : Int) ≤ 64)) := fill_val (j := 66) (hA _ (mem_at 2 rfl)) (by decide) rfl
      rw [Array.getD_eq_getD_getElem?] at g109 g113 g117
      have HK := Lib.hid hK
      clear hK hB hA hW
      go_simp
      exact HK.out _ _ ⟨fun _ => rfl, fun h => by cases h⟩ (Below.refl _ _)
    refine And.intro ?_ ?_
    · refine stepOk_of fun a V hB hA hW K hK => ?_
      have g3 : a.tmps.getD 3 undef = .pointer (some ⟨w1.heap.size, 0, none⟩) := by rw [Array.getD_eq_getD_getElem?, hB.2.1 3 (.inl (by decide))]; rfl
      have HK := Lib.hid hK
      clear hK hB hA hW
      go_simp
      exact HK.out _ _ ⟨fun _ => rfl, fun h => by cases h⟩ (Below.refl _ _)
    refine And.intro ?_ ?_
    · refine stepOk_of fun a V hB hA hW K hK => ?_
      have g119 : a.tmps.getD 119 undef = .pointer (some ⟨w1.heap.size, 7, none⟩) := fill_val (j := 68) (hA _ (mem_at 0 rfl)) (by decide) rfl
      have hWY := below_then (Below.refl _ _).drew hW
      obtain ⟨⟨b0, b1, b2, b3, b4, b5, b6, b7, b8, b9, b10, b11, b12, b13⟩, q0, q1, q2, q3, q4, q5, q6, q7, q8⟩ := HKEEP.out _ hWY
      have HK := Lib.hid hK
      clear hK hB hA hW
      go_simp
      exact HK.out _ _ ⟨fun _ => rfl, fun h => by cases h⟩ (Below.refl _ _)
    refine And.intro ?_ ?_
    · refine stepOk_of fun a V hB hA hW K hK => ?_
      have g1 : a.tmps.getD 1 undef = .pointer (some ⟨w.heap.size, 0, none⟩) := by rw [Array.getD_eq_getD_getElem?, hB.2.1 1 (.inl (by decide))]; rfl
      have HK := Lib.hid hK
      clear hK hB hA hW
      go_simp
      exact HK.out _ _ ⟨fun _ => rfl, fun h => by cases h⟩ (Below.refl _ _)
    refine And.intro ?_ ?_
    · refine stepOk_of fun a V hB hA hW K hK => ?_
      have g121 : a.tmps.getD 121 undef = .pointer (some ⟨w.heap.size, 11, none⟩) := fill_val (j := 70) (hA _ (mem_at 0 rfl)) (by decide) rfl
      have hWY := below_then (Below.refl _ _).drew hW
      obtain ⟨⟨b0, b1, b2, b3, b4, b5, b6, b7, b8, b9, b10, b11, b12, b13⟩, q0, q1, q2, q3, q4, q5, q6, q7, q8⟩ := HKEEP.out _ hWY
      have HK := Lib.hid hK
      clear hK hB hA hW
      go_simp
      exact HK.out _ _ ⟨fun _ => rfl, fun h => by cases h⟩ (Below.refl _ _)
    refine And.intro ?_ ?_
    · refine stepOk_of fun a V hB hA hW K hK => ?_
      have g122 : a.tmps.getD 122 undef = .bool last := fill_val (j := 71) (hA _ (mem_at 0 rfl)) (by decide) rfl
      have HK := Lib.hid hK
      clear hK hB hA hW
      go_simp
      exact HK.out _ _ ⟨fun _ => rfl, fun h => by cases h⟩ (Below.refl _ _)
    refine And.intro ?_ ?_
    · refine stepOk_of fun a V hB hA hW K hK => ?_
      have g120 : a.tmps.getD 120 undef = .bool p7 := fill_val (j := 69) (hA _ (mem_at 0 rfl)) (by decide) rfl
      have g123 : a.tmps.getD 123 undef = .bool (!last) := fill_val (j := 72) (hA _ (mem_at 1 rfl)) (by decide) rfl
      rw [Array.getD_eq_getD_getElem?] at g120 g123
      have HK := Lib.hid hK
      clear hK hB hA hW
      go_simp
      exact HK.out _ _ ⟨fun _ => rfl, fun h => by cases h⟩ (Below.refl _ _)
    refine And.intro ?_ ?_
    · refine stepOk_of fun a V hB hA hW K hK => ?_
      have g3 : a.tmps.getD 3 undef = .pointer (some ⟨w1.heap.size, 0, none⟩) := by rw [Array.getD_eq_getD_getElem?, hB.2.1 3 (.inl (by decide))]; rfl
      have HK := Lib.hid hK
      clear hK hB hA hW
      go_simp
      exact HK.out _ _ ⟨fun _ => rfl, fun h => by cases h⟩ (Below.refl _ _)
    refine And.intro ?_ ?_
    · refine stepOk_of fun a V hB hA hW K hK => ?_
      have g125 : a.tmps.getD 125 undef = .pointer (some ⟨w1.heap.size, 8, none⟩) := fill_val (j := 74) (hA _ (mem_at 0 rfl)) (by decide) rfl
      have hWY := below_then (Below.refl _ _).drew hW
      obtain ⟨⟨b0, b1, b2, b3, b4, b5, b6, b7, b8, b9, b10, b11, b12, b13⟩, q0, q1, q2, q3, q4, q5, q6, q7, q8⟩ := HKEEP.out _ hWY
      have HK := Lib.hid hK
      clear hK hB hA hW
      go_simp
      exact HK.out _ _ ⟨fun _ => rfl, fun h => by cases h⟩ (Below.refl _ _)
    refine And.intro ?_ ?_
    · refine stepOk_of fun a V hB hA hW K hK => ?_
      have g1 : a.tmps.getD 1 undef = .pointer (some ⟨w.heap.size, 0, none⟩) := by rw [Array.getD_eq_getD_getElem?, hB.2.1 1 (.inl (by decide))]; rfl
      have HK := Lib.hid hK
      clear hK hB hA hW
      go_simp
      exact HK.out _ _ ⟨fun _ => rfl, fun h => by cases h⟩ (Below.refl _ _)
    refine And.intro ?_ ?_
    · refine stepOk_of fun a V hB hA hW K hK => ?_
      have g127 : a.tmps.getD 127 undef = .pointer (some ⟨w.heap.size, 12, none⟩) := fill_val (j := 76) (hA _ (mem_at 0 rfl)) (by decide) rfl
      have HK := Lib.hid hK
      clear hK hB hA hW
      go_simp
      exact HK.out _ _ ⟨fun _ => rfl, fun h => by cases h⟩ (Below.refl _ _)
    refine And.intro ?_ ?_
    · refine stepOk_of fun a V hB hA hW K hK => ?_
      have g128 : a.tmps.getD 128 undef = .pointer (some ⟨w.heap.size, 12, none⟩) := fill_val (j := 77) (hA _ (mem_at 0 rfl)) (by decide) rfl
      have hWY := below_then (Below.refl _ _).drew hW
      obtain ⟨⟨b0, b1, b2, b3, b4, b5, b6, b7, b8, b9, b10, b11, b12, b13⟩, q0, q1, q2, q3, q4, q5, q6, q7, q8⟩ := HKEEP.out _ hWY
      have HK := Lib.hid hK
      clear hK hB hA hW
      go_simp
      exact HK.out _ _ ⟨fun _ => rfl, fun h => by cases h⟩ (Below.refl _ _)
    refine And.intro ?_ ?_
    · refine stepOk_of fun a V hB hA hW K hK => ?_
      have g129 : a.tmps.getD 129 undef = .slice c.v.a c.v.len c.v.cap := fill_val (j := 78) (hA _ (mem_at 0 rfl)) (by decide) rfl
      have hWY := below_then (Below.refl _ _).drew hW
      have HK := Lib.hid hK
      clear hK hB hA hW
      go_simp
      exact HK.out _ _ ⟨fun _ => rfl, fun h => by cases h⟩ (Below.refl _ _)
    refine And.intro ?_ ?_
    · refine stepOk_of fun a V hB hA hW K hK => ?_
      have g1 : a.tmps.getD 1 undef = .pointer (some ⟨w.heap.size, 0, none⟩) := by rw [Array.getD_eq_getD_getElem?, hB.2.1 1 (.inl (by decide))]; rfl
      have HK := Lib.hid hK
      clear hK hB hA hW
      go_simp
      exact HK.out _ _ ⟨fun _ => rfl, fun h => by cases h⟩ (Below.refl _ _)
    refine And.intro ?_ ?_
    · refine stepOk_of fun a V hB hA hW K hK => ?_
      have g131 : a.tmps.getD 131 undef = .pointer (some ⟨w.heap.size, 12, none⟩) := fill_val (j := 80) (hA _ (mem_at 0 rfl)) (by decide) rfl
      have HK := Lib.hid hK
      clear hK hB hA hW
      go_simp
      exact HK.out _ _ ⟨fun _ => rfl, fun h => by cases h⟩ (Below.refl _ _)
    refine And.intro ?_ ?_
    · refine stepOk_of fun a V hB hA hW K hK => ?_
      have g132 : a.tmps.getD 132 undef = .pointer (some ⟨w.heap.size, 13, none⟩) := fill_val (j := 81) (hA _ (mem_at 0 rfl)) (by decide) rfl
      have hWY := below_then (Below.refl _ _).drew hW
      obtain ⟨⟨b0, b1, b2, b3, b4, b5, b6, b7, b8, b9, b10, b11, b12, b13⟩, q0, q1, q2, q3, q4, q5, q6, q7, q8⟩ := HKEEP.out _ hWY
      have HK := Lib.hid hK
      clear hK hB hA hW
      go_simp
      exact HK.out _ _ ⟨fun _ => rfl, fun h => by cases h⟩ (Below.refl _ _)
    refine And.intro ?_ ?_
    · refine stepOk_of fun a V hB hA hW K hK => ?_
      have g133 : a.tmps.getD 133 undef = .slice c.l.a c.l.len c.l.cap := fill_val (j := 82) (hA _ (mem_at 0 rfl)) (by decide) rfl
      have hWY := below_then (Below.refl _ _).drew hW
      have HK := Lib.hid hK
      clear hK hB hA hW
      go_simp
      exact HK.out _ _ ⟨fun _ => rfl, fun h => by cases h⟩ (Below.refl _ _)
    refine And.intro ?_ ?_
    · refine stepOk_of fun a V hB hA hW K hK => ?_
      have g130 : a.tmps.getD 130 undef = .int .i64 ((c.v.len : Nat) : Int) := fill_val (j := 79) (hA _ (mem_at 0 rfl)) (by decide) rfl
      have g134 : a.tmps.getD 134 undef = .int .i64 ((c.l.len : Nat) : Int) := fill_val (j := 83) (hA _ (mem_at 1 rfl)) (by decide) rfl
      have HK := Lib.hid hK
      clear hK hB hA hW
      go_simp
      exact HK.out _ _ ⟨fun _ => rfl, fun h => by cases h⟩ (Below.refl _ _)
    refine And.intro ?_ ?_
    · refine stepOk_of fun a V hB hA hW K hK => ?_
      have g135 : a.tmps.getD 135 undef = .int .i64 (IntKind.i64.wrap (((c.v.len : Nat) : Int) + ((c.l.len : Nat) : Int))) := fill_val (j := 84) (hA _ (mem_at 0 rfl)) (by decide) rfl
      have HK := Lib.hid hK
      clear hK hB hA hW
      go_simp
      exact HK.out _ _ ⟨fun _ => rfl, fun h => by cases h⟩ (Below.refl _ _)
    refine And.intro ?_ ?_
    · refine stepOk_of fun a V hB hA hW K hK => ?_
      have g1 : a.tmps.getD 1 undef = .pointer (some ⟨w.heap.size, 0, none⟩) := by rw [Array.getD_eq_getD_getElem?, hB.2.1 1 (.inl (by decide))]; rfl
      have HK := Lib.hid hK
      clear hK hB hA hW
      go_simp
      exact HK.out _ _ ⟨fun _ => rfl, fun h => by cases h⟩ (Below.refl _ _)
    refine And.intro ?_ ?_
    · refine stepOk_of fun a V hB hA hW K hK => ?_
      have g137 : a.tmps.getD 137 undef = .pointer (some ⟨w.heap.size, 12, none⟩) := fill_val (j := 86) (hA _ (mem_at 0 rfl)) (by decide) rfl
      have hWY := below_then (Below.refl _ _).drew hW
      obtain ⟨⟨b0, b1, b2, b3, b4, b5, b6, b7, b8, b9, b10, b11, b12, b13⟩, q0, q1, q2, q3, q4, q5, q6, q7, q8⟩ := HKEEP.out _ hWY
      have HK := Lib.hid hK
      clear hK hB hA hW
      go_simp
      exact HK.out _ _ ⟨fun _ => rfl, fun h => by cases h⟩ (Below.refl _ _)
    refine And.intro ?_ ?_
    · refine stepOk_of fun a V hB hA hW K hK => ?_
      have g138 : a.tmps.getD 138 undef = .agg #[.slice c.v.a c.v.len c.v.cap, .slice c.l.a c.l.len c.l.cap] := fill_val (j := 87) (hA _ (mem_at 0 rfl)) (by decide) rfl
      have hWY := below_then (Below.refl _ _).drew hW
      have HK := Lib.hid hK
      clear hK hB hA hW
      go_simp
      go_at_call 38
      refine (HCR.out _ hWY).mono ?_
      rintro e y5 ⟨rfl, hb5⟩
      exact HK.out _ _ ⟨fun _ => rfl, fun h => by cases h⟩ (hb5)
    refine And.intro ?_ ?_
    · refine stepOk_of fun a V hB hA hW K hK => ?_
      have g126 : a.tmps.getD 126 undef = .bool p8 := fill_val (j := 75) (hA _ (mem_at 0 rfl)) (by decide) rfl
      have g136 : a.tmps.getD 136 undef = .bool ((IntKind.i64.wrap (((c.v.len : Nat) : Int) + ((c.l.len : Nat) : Int))) == 0) := fill_val (j := 85) (hA _ (mem_at 1 rfl)) (by decide) rfl
      have g139 : a.tmps.getD 139 undef = .bool (confRight c.v.zs c.l.zs) := fill_val (j := 88) (hA _ (mem_at 2 rfl)) (by decide) rfl
      rw [Array.getD_eq_getD_getElem?] at g126 g136 g139
      have HK := Lib.hid hK
      clear hK hB hA hW
      go_simp
      exact HK.out _ _ ⟨fun _ => rfl, fun h => by cases h⟩ (Below.refl _ _)
    refine And.intro ?_ ?_
    · refine stepOk_of fun a V hB hA hW K hK => ?_
      have g60 : a.tmps.getD 60 undef = .agg #[.bool p0, .bool (index == 0), .bool (numberOf index least)] := fill_val (j := 9) (hA _ (mem_at 0 rfl)) (by decide) rfl
      have g69 : a.tmps.getD 69 undef = .agg #[.bool p1, .bool (logTerm == 0), .bool (numberOf logTerm 0)] := fill_val (j := 18) (hA _ (mem_at 1 rfl)) (by decide) rfl
      have g78 : a.tmps.getD 78 undef = .agg #[.bool p2, .bool (commit == 0), .bool (numberOf commit 0)] := fill_val (j := 27) (hA _ (mem_at 2 rfl)) (by decide) rfl
      have g84 : a.tmps.getD 84 undef = .agg #[.bool p3, .bool (!ok), .bool true] := fill_val (j := 33) (hA _ (mem_at 3 rfl)) (by decide) rfl
      have g93 : a.tmps.getD 93 undef = .agg #[.bool p4, .bool (((en : Nat) : Int) == 0), .bool (mEnts term index logTerm es && decide (en ≤ 8))] := fill_val (j := 42) (hA _ (mem_at 4 rfl)) (by decide) rfl
      have g107 : a.tmps.getD 107 undef = .agg #[.bool p5, .bool (off == 0), .bool (decide (0 ≤ off) && decide (off ≤ 32768))] := fill_val (j := 56) (hA _ (mem_at 5 rfl)) (by decide) rfl
      have g118 : a.tmps.getD 118 undef = .agg #[.bool p6, .bool (((d.len : Nat) : Int) == 0), .bool (decide (((d.len : Nat) : Int) ≤ 64))] := fill_val (j := 67) (hA _ (mem_at 6 rfl)) (by decide) rfl
      have g124 : a.tmps.getD 124 undef = .agg #[.bool p7, .bool (!last), .bool true] := fill_val (j := 73) (hA _ (mem_at 7 rfl)) (by decide) rfl
      have g140 : a.tmps.getD 140 undef = .agg #[.bool p8, .bool ((IntKind.i64.wrap (((c.v.len : Nat) : Int) + ((c.l.len : Nat) : Int))) == 0), .bool (confRight c.v.zs c.l.zs)] := fill_val (j := 89) (hA _ (mem_at 8 rfl)) (by decide) rfl
      rw [Array.getD_eq_getD_getElem?] at g60 g69 g78 g84 g93 g107 g118 g124 g140
      have HK := Lib.hid hK
      clear hK hB hA hW
      go_simp
      refine HK.out _ _ ⟨fun h => absurd rfl h, fun _ => ⟨V.heap.size, rfl, ?_⟩⟩ (below_alloc (Below.refl _ _) _)
      exact RowN.of_block (heap_alloc_new V _) rfl (by simp [rowsM, rowCells, E1.out, E2.out, E3.out, E4.out])
    refine And.intro ?_ ?_
    · refine stepOk_of fun a V hB hA hW K hK => ?_
      obtain ⟨u90, h90, _, hv90⟩ := hA _ (mem_at 0 rfl)
      obtain ⟨B, rfl, _⟩ := hv90 rfl
      have g141 : a.tmps.getD 141 undef = .slice (some ⟨B, 0, none⟩) 9 9 := by rw [Array.getD_eq_getD_getElem?]; exact congrArg (fun o => o.getD undef) h90
      have HK := Lib.hid hK
      clear hK hB hA hW
      go_simp
      exact HK.out _ _ ⟨fun _ => rfl, fun h => by cases h⟩ (Below.refl _ _)
    refine And.intro ?_ ?_
    · refine stepOk_of fun a V hB hA hW K hK => ?_
      have HK := Lib.hid hK
      clear hK hB hA hW
      go_simp
      exact HK.out _ _ ⟨fun _ => rfl, fun h => by cases h⟩ (Below.refl _ _)
    trivial
  case rest =>
  obtain ⟨B, rfl, rfl, rfl, hrows, HBW⟩ := hcut
  have hup : ∀ V, Below wc.heap.size wc V → RetBox w (.bool v) (.returned (.bool v)) V := fun V hV => ⟨rfl, below_then HXB.out (below_then HBY.out (below_then HBW.out hV))⟩
  have HUP := Lib.hid hup
  obtain ⟨rs, hrs⟩ : ∃ rs, rs = rowsM ⟨p0, p1, p2, p3, p4, p5, p6, p7, p8⟩ ⟨kind, fr, tt, term, index, logTerm, commit, ok, ea, en, ecap, es, off, d, last, c⟩ least := ⟨_, rfl⟩
  have hrl : rs.length = 9 := by rw [hrs]; rfl
  rw [← hrs] at hrows HVR
  have HRL := Lib.hid hrl
  have HROWS := Lib.hid hrows
  have hmk := fun V hV => (HKEEP.out V (below_then HBW.out hV)).1
  have HMK := Lib.hid hmk
  clear hrs hrows hrl HBW HKEEP HME HCR HNB HXB HBY hup hmk b0 b1 b2 b3 b4 b5 b6 b7 b8 b9 b10 b11 b12 b13 q0 q1 q2 q3 q4 q5 q6 q7 q8 hdl0 hdl hen hcn
  go_wp2_with fail
  go_loopw [143] (fun i wr => ∃ k : Nat, i = .int .i64 k ∧ k ≤ 9 ∧ Hid (v = ((rs.drop k).all (fun r => part3 r.1 r.2.1 r.2.2) && (decide (kind ≠ 7) || decide (logTerm ≤ term)))) ∧ Hid (Below wc.heap.size wc wr)) (fun i _ => 9 - (intOf i).toNat)
  case atStart => exact ⟨0, rfl, by omega, HVR.out, Below.refl _ _⟩
  case round =>
    obtain ⟨k, rfl, hk, HG, HB⟩ := hrel
    by_cases hlt : k < 9
    · obtain ⟨r, hr⟩ : ∃ r, rs[k]? = some r := ⟨_, List.getElem?_eq_getElem (by rw [HRL.out]; exact hlt)⟩
      obtain ⟨b, o, hbo, e0, e1, e2⟩ := row3_at (HROWS.out.below HB.out) k r hr
      cases hbo
      have hkn : (k : Int) < 9 := by omega
      have hg := HG.out
      rw [List.drop_eq_getElem_cons (show k < rs.length by rw [HRL.out]; exact hlt), show rs[k]'(by rw [HRL.out]; exact hlt) = r from (List.getElem?_eq_some_iff.1 hr).2, List.all_cons] at hg
      obtain ⟨x, y, z⟩ := r
      have HG2 := Lib.hid hg
      clear hg hr
      simp only [Nat.zero_add] at e0 e1 e2 HG2
      obtain ⟨Q, hQ⟩ : ∃ Q, Q = wr.alloc (.cells #[.bool x, .bool y, .bool z] 76) := ⟨_, rfl⟩
      have hbQ : Below wc.heap.size wc Q := below_then HB.out (hQ ▸ below_alloc (Below.refl _ _) _)
      have hqc : Q.heap[wr.heap.size]? = some (.cells #[.bool x, .bool y, .bool z] 76 (0, 0)) := hQ ▸ heap_alloc_new wr _
      have f0 : Q.cell? ⟨wr.heap.size, 0, none⟩ = some (.bool x) := by simp [World.cell?, hqc]
      have f1 : Q.cell? ⟨wr.heap.size, 1, none⟩ = some (.bool y) := by simp [World.cell?, hqc]
      have f2 : Q.cell? ⟨wr.heap.size, 2, none⟩ = some (.bool z) := by simp [World.cell?, hqc]
      rw [hQ] at f0 f1 f2
      have HQ := Lib.hid hQ
      have HBQ := Lib.hid hbQ
      clear hQ hbQ hqc
      cases x
      · cases y
        · have hv : v = false := by rw [HG2.out]; rfl
          subst hv
          clear HG HG2 HVR
          go_wp2_with fail
          go_ret
          exact HUP.out _ (HQ.out ▸ HBQ.out)
        · have hv : v = ((rs.drop (k + 1)).all (fun r => part3 r.1 r.2.1 r.2.2) && (decide (kind ≠ 7) || decide (logTerm ≤ term))) := by rw [HG2.out]; rfl
          have HV2 := Lib.hid hv
          clear hv HG HG2 HVR
          go_wp2_with fail
          rw [← HQ.out]
          go_roundw
          case rel => exact ⟨k + 1, by go_num, by omega, HV2.out, HBQ.out⟩
          case measure => simp [intOf]; omega
      · cases z
        · have hv : v = false := by rw [HG2.out]; cases y <;> rfl
          subst hv
          clear HG HG2 HVR
          go_wp2_with fail
          go_ret
          exact HUP.out _ (HQ.out ▸ HBQ.out)
        · have hv : v = ((rs.drop (k + 1)).all (fun r => part3 r.1 r.2.1 r.2.2) && (decide (kind ≠ 7) || decide (logTerm ≤ term))) := by rw [HG2.out]; cases y <;> rfl
          have HV2 := Lib.hid hv
          clear hv HG HG2 HVR
          go_wp2_with fail
          rw [← HQ.out]
          go_roundw
          case rel => exact ⟨k + 1, by go_num, by omega, HV2.out, HBQ.out⟩
          case measure => simp [intOf]; omega
    · have hke : k = 9 := by omega
      subst hke
      have hv : v = (decide (kind ≠ 7) || decide (logTerm ≤ term)) := by rw [HG.out, List.drop_of_length_le (by rw [HRL.out]; omega)]; rfl
      obtain ⟨b0, b1, b2, b3, b4, b5, b6, b7, b8, b9, b10, b11, b12, b13⟩ := HMK.out _ HB.out
      have HUPB := Lib.hid (HUP.out _ HB.out)
      clear HG HVR HUP HMK HROWS HRL HB b1 b2 b4 b6 b7 b8 b9 b10 b11 b12 b13
      by_cases h7 : kind = 7
      · have hne : (kind != 7) = false := by simp [h7]
        have hv2 : v = decide (logTerm ≤ term) := by rw [hv, decide_eq_false (by omega : ¬ kind ≠ 7), Bool.false_or]
        have HV2 := Lib.hid hv2
        clear hv hv2 h7
        go_wp2_with fail
        go_ret
        rw [← HV2.out]
        exact HUPB.out
      · have hne : (kind != 7) = true := by simp [h7]
        have hv2 : v = true := by rw [hv, decide_eq_true (by omega : kind ≠ 7), Bool.true_or]
        subst hv2
        clear hv h7
        go_wp2_with fail
        go_ret
        exact HUPB.out
end Go.Proofs.Ytcejamblndilbaa
