/- msg.Encode. -/
import Derived.Test.YtcejamblndilbaaMsg3
import Derived.Test.YtcejamblndilbaaCbytes
namespace Go.Proofs.Ytcejamblndilbaa
open Go.RowKit

theorem bulkV_app (a b : List Vl) : bulkV (a ++ b) = bulkV a + bulkV b := by simp [bulkV]
def entVs (es : List En) : List Vl := es.flatMap fun e => [numV e.tm, numV e.kd, bytesV e.s]
/-- the values of a message; cb the configuration's bytes -/
def valsM (p : Pt) (m : Ms) (cb : Sl) : List Vl :=
  [numV m.kind, numV m.fr, numV m.to, numV m.term] ++ ifV p.index (numV m.index) ++ ifV p.logTerm (numV m.logTerm) ++ ifV p.commit (numV m.commit) ++ ifV p.ok (flagV m.ok) ++ ifV p.entries (numV (m.en : Nat)) ++ entVs m.es ++
    ifV p.off (numV m.off) ++ ifV p.data (bytesV m.d) ++ ifV p.last (flagV m.last) ++ ifV p.conf (bytesV cb)

/-- the list grows in the cell V, and what was there before V stands -/
def EncI (W0 : World) (V : Nat) (w : World) (vs : List Vl) (row : Option Nat) : Prop := VsAt w V vs row ∧ Below V W0 w
theorem VsAt.row_lt {w : World} {V : Nat} {vs : List Vl} {row : Option Nat} (h : VsAt w V vs row) : ∀ g, row = some g → V < g ∧ g < w.heap.size := by
  obtain ⟨ao, cap, hV, ho, hr⟩ := h
  exact fun g hg => ⟨by have := (ho.lt g (hr ▸ hg)).1; omega, (ho.lt g (hr ▸ hg)).2⟩
theorem VsAt.lt {w : World} {V : Nat} {vs : List Vl} {row : Option Nat} (h : VsAt w V vs row) : V < w.heap.size := by
  obtain ⟨ao, cap, hV, ho, hr⟩ := h
  exact (Array.getElem?_eq_some_iff.1 hV).1
theorem EncI.next {W0 w w' : World} {V : Nat} {vs vs' : List Vl} {row : Option Nat} {e : Ending} (h : EncI W0 V w vs row) (hp : VsPost w V vs' row e w') :
    e = .returned (.tuple #[]) ∧ ∃ row', EncI W0 V w' vs' row' ∧ (∀ g, row' = some g → row = some g ∨ w.heap.size ≤ g) ∧ Touch (V :: row.toList) w w' := by
  obtain ⟨he, row', hv, hrw, ht⟩ := hp
  refine ⟨he, row', ⟨hv, ht.below h.2 (Nat.le_of_lt h.1.lt) (fun k hk => ?_)⟩, fun g hg => ?_, ht⟩
  · rcases List.mem_cons.1 hk with rfl | hk
    · exact Nat.le_refl _
    · exact Nat.le_of_lt (h.1.row_lt k (by simpa using hk)).1
  · rcases hrw with h1 | h1 | h1
    · exact .inl (h1 ▸ hg)
    · rw [h1] at hg; exact .inr (by injection hg; omega)
    · rw [h1] at hg; exact .inr (by injection hg; omega)
theorem VsAt.below {w w' : World} {V : Nat} {vs : List Vl} {row : Option Nat} (h : VsAt w V vs row) (hb : Below w.heap.size w w') : VsAt w' V vs row := by
  obtain ⟨ao, cap, hV, ho, hr⟩ := h
  exact ⟨ao, cap, (hb.block _ (Array.getElem?_eq_some_iff.1 hV).1).trans hV, own_keep ho (fun g _ hl => hb.block g hl), hr⟩
theorem EncI.below {W0 w w' : World} {V : Nat} {vs : List Vl} {row : Option Nat} (h : EncI W0 V w vs row) (hb : Below w.heap.size w w') : EncI W0 V w' vs row :=
  ⟨h.1.below hb, h.2.trans (hb.mono (Nat.le_of_lt h.1.lt))⟩

/-- what a right message says -/
theorem right_facts {m : Ms} (h : rightM m = true) : (1 ≤ m.kind ∧ m.kind ≤ 8) ∧ (1 ≤ m.fr ∧ m.fr ≤ 7) ∧ (1 ≤ m.to ∧ m.to ≤ 7) ∧ (1 ≤ m.term ∧ m.term ≤ 1099511627776) ∧ (0 ≤ m.index ∧ m.index ≤ 1099511627776) ∧ (0 ≤ m.logTerm ∧ m.logTerm ≤ 1099511627776) ∧ (0 ≤ m.commit ∧ m.commit ≤ 1099511627776) ∧
    m.en ≤ 8 ∧ (m.en ≠ 0 → mEnts m.term m.index m.logTerm m.es = true) ∧ (0 ≤ m.off ∧ m.off ≤ 32768) ∧ m.d.len ≤ 64 := by
  simp only [rightM, headOk, partsOk, part3, numberOf, Bool.and_eq_true, decide_eq_true_eq] at h
  obtain ⟨⟨hk, h1, h2, h3, h4, _, h5, h6⟩, ⟨i1, i2, i3, i4, i5, i6, i7, i8, i9⟩, _⟩ := h
  have hkk : 1 ≤ m.kind ∧ m.kind ≤ 8 := by
    unfold namesOf at hk
    by_cases k1 : m.kind = 1 ∨ m.kind = 3
    · omega
    by_cases k2 : m.kind = 2 ∨ m.kind = 4
    · omega
    by_cases k3 : m.kind = 5
    · omega
    by_cases k4 : m.kind = 6
    · omega
    by_cases k5 : m.kind = 7
    · omega
    by_cases k6 : m.kind = 8
    · omega
    rw [if_neg k1, if_neg k2, if_neg k3, if_neg k4, if_neg k5, if_neg k6] at hk
    cases hk
  have hnum : ∀ (nm : Bool) (x l : Int), 0 ≤ l → (!((nm && !(decide (l ≤ x) && decide (x ≤ 1099511627776))) || (!nm && !(x == 0)))) = true → 0 ≤ x ∧ x ≤ 1099511627776 := by
    intro nm x l hl hh
    cases nm
    · simp at hh; omega
    · simp at hh; omega
  refine ⟨hkk, ⟨h1, h2⟩, ⟨h3, h4⟩, ⟨h5, h6⟩, hnum _ _ _ (by split <;> omega) i1, hnum _ _ _ (by omega) i2, hnum _ _ _ (by omega) i3, ?_, ?_, ?_, ?_⟩
  · revert i5; cases (namesOf m.kind).1.entries <;> simp <;> omega
  · revert i5; cases (namesOf m.kind).1.entries <;> simp <;> intros <;> simp_all
  · revert i6; cases (namesOf m.kind).1.off <;> simp <;> omega
  · revert i7; cases (namesOf m.kind).1.data <;> simp <;> omega

theorem mEnts_facts {top : Int} : ∀ (es : List En) (i t : Int), mEnts top i t es = true → ∀ e ∈ es, t ≤ e.tm ∧ e.tm ≤ top ∧ 0 ≤ e.kd ∧ e.kd ≤ 2 ∧ e.s.len ≤ 2048
  | [], _, _, _, _, h => by cases h
  | u :: r, i, t, h, e, he => by
    rw [mEnts] at h
    split at h
    · cases h
    · rename_i hn
      rcases List.mem_cons.1 he with rfl | he
      · exact ⟨by omega, by omega, by omega, by omega, by omega⟩
      · have := mEnts_facts r u.ix u.tm h e he
        exact ⟨by omega, this.2.1, this.2.2.1, this.2.2.2.1, this.2.2.2.2⟩
theorem flagV_ok (w : World) (b : Bool) : Vl.ok w (flagV b) := ⟨⟨⟨rfl, fun i hi => absurd hi (by simp [flagV])⟩, Nat.le_refl _, by simp [flagV, maxLen], fun _ => rfl⟩, by simp [flagV], by simp [flagV], by simp [flagV]⟩
theorem bytesV_ok {w : World} {s : Sl} (h : Sl.ok w s) : Vl.ok w (bytesV s) := ⟨h, by simp [bytesV], by simp [bytesV], by simp [bytesV]⟩
theorem ifV_ok {w : World} {b : Bool} {v : Vl} (h : Vl.ok w v) : ∀ x ∈ ifV b v, Vl.ok w x := by
  cases b
  · intro x hx; cases hx
  · intro x hx; simp [ifV] at hx; exact hx ▸ h
theorem bulk_if (b : Bool) (v : Vl) : bulkV (ifV b v) ≤ v.s.len + 1 := by cases b <;> simp [ifV, bulkV]
theorem err_if {b : Bool} {v : Vl} (h : v.err = 0) : ∀ x ∈ ifV b v, x.err = 0 := by
  cases b
  · intro x hx; cases hx
  · intro x hx; simp [ifV] at hx; exact hx ▸ h
theorem right_ents {m : Ms} (h : rightM m = true) (hl : m.es.length = m.en) : ∀ e ∈ m.es, 0 ≤ e.tm ∧ e.tm ≤ 1099511627776 ∧ 0 ≤ e.kd ∧ e.kd ≤ 2 ∧ e.s.len ≤ 2048 := by
  obtain ⟨_, _, _, ht, _, hlt, _, _, hes, _, _⟩ := right_facts h
  intro e he
  have hne : m.en ≠ 0 := fun h0 => by
    have : m.es = [] := List.length_eq_zero_iff.1 (by omega)
    rw [this] at he; cases he
  have := mEnts_facts _ _ _ (hes hne) e he
  exact ⟨by omega, by omega, this.2.2.1, this.2.2.2.1, this.2.2.2.2⟩
theorem vals_ok {m : Ms} {p : Pt} {w : World} {cb : Sl} (hr : rightM m = true) (h : MsOk w m) (hcb : Sl.ok w cb) (hcl : cb.len ≤ 4096) : (∀ v ∈ valsM p m cb, Vl.ok w v ∧ v.err = 0) ∧ bulkV (valsM p m cb) ≤ 1000000 := by
  have hen := right_ents hr h.len
  obtain ⟨h0, h1, h2, h3, h4, h5, h6, h7, _, h8, h9⟩ := right_facts hr
  have hnum : ∀ n : Int, (numV n).err = 0 := fun n => by simp [Vl.err, numV]
  have hflag : ∀ b : Bool, (flagV b).err = 0 := fun n => by simp [Vl.err, flagV]
  have hby : ∀ s : Sl, s.len ≤ 4096 → (bytesV s).err = 0 := fun s hs => by simp [Vl.err, bytesV, hs]
  have hent : ∀ v ∈ entVs m.es, Vl.ok w v ∧ v.err = 0 := by
    intro v hv
    obtain ⟨e, he, hv⟩ := List.mem_flatMap.1 hv
    have hf := hen e he
    simp only [List.mem_cons, List.not_mem_nil, or_false] at hv
    rcases hv with rfl | rfl | rfl
    · exact ⟨numV_ok w _ (by omega), hnum _⟩
    · exact ⟨numV_ok w _ (by omega), hnum _⟩
    · exact ⟨bytesV_ok (h.ents e he), hby _ (by omega)⟩
  have hbe : ∀ es : List En, (∀ e ∈ es, e.s.len ≤ 2048) → bulkV (entVs es) ≤ 2051 * es.length := by
    intro es
    induction es with
    | nil => intro _; simp [entVs, bulkV]
    | cons e r ih =>
      intro hs
      have := ih fun x hx => hs x (List.mem_cons_of_mem _ hx)
      have := hs e (List.mem_cons_self ..)
      rw [entVs, List.flatMap_cons, bulkV_app, ← entVs, List.length_cons]
      simp [bulkV, numV, bytesV] at *
      omega
  refine ⟨?_, ?_⟩
  · have ci : ∀ {b : Bool} {v : Vl}, Vl.ok w v → v.err = 0 → ∀ x ∈ ifV b v, Vl.ok w x ∧ x.err = 0 := fun h1 h2 x hx => ⟨ifV_ok h1 x hx, err_if h2 x hx⟩
    intro v hv
    simp only [valsM, List.mem_append] at hv
    rcases hv with (((((((((hv | hv) | hv) | hv) | hv) | hv) | hv) | hv) | hv) | hv) | hv
    · simp only [List.mem_cons, List.not_mem_nil, or_false] at hv
      rcases hv with rfl | rfl | rfl | rfl
      · exact ⟨numV_ok w _ (by omega), hnum _⟩
      · exact ⟨numV_ok w _ (by omega), hnum _⟩
      · exact ⟨numV_ok w _ (by omega), hnum _⟩
      · exact ⟨numV_ok w _ (by omega), hnum _⟩
    · exact ci (numV_ok w _ (by omega)) (hnum _) v hv
    · exact ci (numV_ok w _ (by omega)) (hnum _) v hv
    · exact ci (numV_ok w _ (by omega)) (hnum _) v hv
    · exact ci (flagV_ok w _) (hflag _) v hv
    · exact ci (numV_ok w _ (by omega)) (hnum _) v hv
    · exact hent v hv
    · exact ci (numV_ok w _ (by omega)) (hnum _) v hv
    · exact ci (bytesV_ok h.data) (hby _ (by omega)) v hv
    · exact ci (flagV_ok w _) (hflag _) v hv
    · exact ci (bytesV_ok hcb) (hby _ hcl) v hv
  · have h10 := hbe m.es fun e he => (hen e he).2.2.2.2
    have hl := h.len
    simp only [valsM, bulkV_app]
    have b0 : bulkV [numV m.kind, numV m.fr, numV m.to, numV m.term] = 4 := by simp [bulkV, numV]
    have b1 := bulk_if p.index (numV m.index)
    have b2 := bulk_if p.logTerm (numV m.logTerm)
    have b3 := bulk_if p.commit (numV m.commit)
    have b4 := bulk_if p.ok (flagV m.ok)
    have b5 := bulk_if p.entries (numV (m.en : Nat))
    have b6 := bulk_if p.off (numV m.off)
    have b7 := bulk_if p.data (bytesV m.d)
    have b8 := bulk_if p.last (flagV m.last)
    have b9 := bulk_if p.conf (bytesV cb)
    simp only [numV, flagV, bytesV] at b0 b1 b2 b3 b4 b5 b6 b7 b8 b9 ⊢
    rw [b0]
    omega
theorem putAll_all : ∀ (vs : List Vl) (acc : List UInt8), (∀ v ∈ vs, v.err = 0) → putAll vs acc = (acc ++ vs.flatMap Vl.bytes, 0)
  | [], acc, _ => by simp [putAll]
  | v :: r, acc, h => by
    rw [putAll_ok (h v (List.mem_cons_self ..)), putAll_all r _ fun x hx => h x (List.mem_cons_of_mem _ hx), List.flatMap_cons, List.append_assoc]
theorem cBytes_len (v l : List Int) : (cBytes v l).1.length ≤ 160 := by
  unfold cBytes
  split
  · rename_i h
    obtain ⟨h1, h2, _⟩ := confRight_facts h
    have r1 := rising_len h1
    have r2 := rising_len h2
    rw [putAll_all]
    · have hb : ∀ vs : List Vl, (∀ x ∈ vs, x.bytes.length ≤ 10) → (vs.flatMap Vl.bytes).length ≤ 10 * vs.length := by
        intro vs
        induction vs with
        | nil => intro _; simp
        | cons v r ih =>
          intro hx
          have := ih fun x h => hx x (List.mem_cons_of_mem _ h)
          have := hx v (List.mem_cons_self ..)
          rw [List.flatMap_cons, List.length_append, List.length_cons]; omega
      have hg : ∀ zs : List Int, ∀ x ∈ grpV zs, x.bytes.length ≤ 10 := by
        intro zs x hx
        rcases List.mem_cons.1 hx with rfl | hx
        · simp only [Vl.bytes, numV]; exact numBytes_len _
        · obtain ⟨z, _, rfl⟩ := List.mem_map.1 hx
          simp only [Vl.bytes, numV]; exact numBytes_len _
      have := hb (confVals v l) (fun x hx => (List.mem_append.1 hx).elim (hg v x) (hg l x))
      have hl : (confVals v l).length = v.length + l.length + 2 := by simp [confVals, grpV]; omega
      simp only [List.nil_append]
      omega
    · intro x hx
      have hg : ∀ zs : List Int, ∀ x ∈ grpV zs, x.err = 0 := by
        intro zs x hx
        rcases List.mem_cons.1 hx with rfl | hx
        · simp [Vl.err, numV]
        · obtain ⟨z, _, rfl⟩ := List.mem_map.1 hx
          simp [Vl.err, numV]
      exact (List.mem_append.1 hx).elim (hg v x) (hg l x)
  · simp
def confSl (v l : List Int) : Sl := ⟨none, (cBytes v l).1.length, 0, (cBytes v l).1⟩
/-- a message's bytes -/
def encM (m : Ms) : List UInt8 := (valsM (namesOf m.kind).1 m (confSl m.c.v.zs m.c.l.zs)).flatMap Vl.bytes
theorem encM_cb {p : Pt} {m : Ms} {a b : Sl} (h1 : a.len = b.len) (h2 : a.bs = b.bs) : (valsM p m a).flatMap Vl.bytes = (valsM p m b).flatMap Vl.bytes := by
  have : (bytesV a).bytes = (bytesV b).bytes := by simp [Vl.bytes, bytesV, h1, h2]
  simp only [valsM, List.flatMap_append]
  congr 1
  cases p.conf <;> simp [ifV, this]
/-- its frame, or the error -/
def encOf (m : Ms) : List UInt8 × Nat := if rightM m then Fr.framed (encM m) else ([], 1)

set_option maxRecDepth 100000 in
set_option maxHeartbeats 16000000 in
theorem encode_no (m : Ms) (w : World) (h : MsOk w m) (hcn : m.c.v.len ≤ 9223372036854775807 ∧ m.c.l.len ≤ 9223372036854775807) (hr : rightM m = false) :
    Calls Try.prog 10 #[.agg m.cs] w (RetBytesCode w 0 [] 1) := by
  obtain ⟨X, hX⟩ : ∃ X, X = w.alloc (.cells m.cs 28) := ⟨_, rfl⟩
  have hXb : Below w.heap.size w X := hX ▸ below_alloc (Below.refl _ _) _
  have hc := mright_any m X (h.below hXb) hcn
  rw [hr] at hc
  obtain ⟨b0, b1, b2, b3, b4, b5, b6, b7, b8, b9, b10, b11, b12, b13⟩ := ms_cells (show X.heap[w.heap.size]? = some (.cells m.cs 28 (0, 0)) from hX ▸ heap_alloc_new w _)
  have HC := Lib.hid hc
  have HX := Lib.hid hX
  have HXB := Lib.hid hXb
  clear hc hX hXb h hcn hr
  obtain ⟨kind, fr, tt, term, index, logTerm, commit, ok, ea, en, ecap, es, off, d, last, c⟩ := m
  simp only [Ms.cs] at HC HX b0 b1 b2 b3 b4 b5 b6 b7 b8 b9 b10 b11 b12 b13 ⊢
  go_enter Try.func10, Try.ntmps10
  go_wp2_with fail
  rw [← HX.out]
  go_wp2_with fail
  refine HC.out.mono ?_
  rintro e w1 ⟨rfl, hb1⟩
  have HB1 := Lib.hid hb1
  clear hb1 b0 b1 b2 b3 b4 b5 b6 b7 b8 b9 b10 b11 b12 b13
  go_wp2_with fail
  go_ret2
  exact ⟨none, 0, rfl, Own8.nil _ _, below_then HXB.out HB1.out⟩

theorem enters_e1 (args : Array Value) (w : World) : (callFunc 28 args).run Try.prog w = .ok (.enter 28 args) w := enters Try.func28 (by kernel_rfl) rfl args w
theorem enters_e2 (args : Array Value) (w : World) : (callFunc 29 args).run Try.prog w = .ok (.enter 29 args) w := enters Try.func29 (by kernel_rfl) rfl args w
theorem enters_e3 (args : Array Value) (w : World) : (callFunc 30 args).run Try.prog w = .ok (.enter 30 args) w := enters Try.func30 (by kernel_rfl) rfl args w
theorem ifV_len (b : Bool) (v : Vl) : (ifV b v).length ≤ 1 := by cases b <;> simp [ifV]

theorem keepE {w w' : World} {V E : Nat} {row : Option Nat} (ht : Touch (V :: row.toList) w w') (hE : E < w.heap.size) (hV : V < E) (hr : row ≠ some E) : w'.heap[E]? = w.heap[E]? :=
  ht.block E hE (fun h => by
    rcases List.mem_cons.1 h with h | h
    · omega
    · exact hr (by simpa using h))

def EncOut (m : Ms) (w : World) : Ending → World → Prop := RetBytesCode w (Fr.framed (encM m)).1.length (Fr.framed (encM m)).1 (Fr.framed (encM m)).2

set_option maxRecDepth 100000 in
set_option maxHeartbeats 16000000 in
theorem encode_yes (m : Ms) (w : World) (h : MsOk w m) (hcn : m.c.v.len ≤ 9223372036854775807 ∧ m.c.l.len ≤ 9223372036854775807) (hr : rightM m = true) :
    Calls Try.prog 10 #[.agg m.cs] w (EncOut m w) := by
  obtain ⟨X, hX⟩ : ∃ X, X = w.alloc (.cells m.cs 28) := ⟨_, rfl⟩
  have hXb : Below w.heap.size w X := hX ▸ below_alloc (Below.refl _ _) _
  have hXs : X.heap.size = w.heap.size + 1 := by rw [hX, World.size_alloc]
  have hc := mright_any m X (h.below hXb) hcn
  rw [hr] at hc
  have hcell : ∀ Z, Below X.heap.size X Z → Z.heap[w.heap.size]? = some (.cells m.cs 28 (0, 0)) := fun Z hZ => (hZ.block _ (by omega)).trans (hX ▸ heap_alloc_new w _)
  have hen := (right_facts hr).2.2.2.2.2.2.2.1
  have hm := h.below hXb
  obtain ⟨b0, b1, b2, b3, b4, b5, b6, b7, b8, b9, b10, b11, b12, b13⟩ := ms_cells (hcell X (Below.refl _ _))
  have HC := Lib.hid hc
  have HX := Lib.hid hX
  have HXB := Lib.hid hXb
  have HXS := Lib.hid hXs
  have HCELL := Lib.hid hcell
  have HM := Lib.hid hm
  have HR := Lib.hid hr
  have HCN := Lib.hid hcn
  clear hc hX hXb hcell hXs hm h hr hcn
  obtain ⟨post, hpost⟩ : ∃ post, post = EncOut m w := ⟨_, rfl⟩
  rw [← hpost]
  obtain ⟨mm, hmm⟩ : ∃ mm, mm = m := ⟨_, rfl⟩
  rw [← hmm] at hpost
  have HPOST := Lib.hid hpost
  clear hpost
  obtain ⟨kind, fr, tt, term, index, logTerm, commit, ok, ea, en, ecap, es, off, d, last, c⟩ := m
  have HMM := Lib.hid hmm
  rw [← hmm] at HM HR HCELL HCN
  clear hmm
  simp only [Ms.cs] at HC HX b0 b1 b2 b3 b4 b5 b6 b7 b8 b9 b10 b11 b12 b13 hen ⊢
  go_enter Try.func10, Try.ntmps10
  go_wp2_with fail
  rw [← HX.out]
  go_wp2_with fail
  refine HC.out.mono ?_
  rintro e w1 ⟨rfl, hb1⟩
  obtain ⟨c0, c1, c2, c3, c4, c5, c6, c7, c8, c9, c10, c11, c12, c13⟩ := ms_cells (HMM.out ▸ HCELL.out _ hb1)
  clear b0 b1 b2 b3 b4 b5 b6 b7 b8 b9 b10 b11 b12 b13 c1 c2 c3 c4 c5 c6 c7 c8 c9 c10 c11 c12 c13 HC
  simp only at c0
  have hnm := names_any kind w1
  have HNM := Lib.hid hnm
  have HB1 := Lib.hid hb1
  clear hnm hb1
  go_wp2_with fail
  refine HNM.out.mono ?_
  rintro e w2 ⟨rfl, hb2⟩
  have HB2 := Lib.hid hb2
  clear hb2 c0 HNM
  obtain ⟨p, yes, hpy⟩ : ∃ p yes, namesOf kind = (p, yes) := ⟨_, _, rfl⟩
  have hpm : (namesOf mm.kind).1 = p := by rw [HMM.out]; simp only [hpy]
  simp only [hpy]
  have HPM := Lib.hid hpm
  clear hpm hpy
  obtain ⟨p0, p1, p2, p3, p4, p5, p6, p7, p8⟩ := p
  simp only [Pt.cs]
  have hmf : ∀ (fn : Fn) (first cap : Array Value) (w : World), (Instr.makeFunc fn first cap).run Try.prog w = .ok (.func fn first cap) w := fun _ _ _ _ => rfl
  obtain ⟨V, hV⟩ : ∃ V, V = w2.heap.size + 1 := ⟨_, rfl⟩
  obtain ⟨W0, hW0⟩ : ∃ W0, W0 = (w2.alloc (.cells #[.bool p0, .bool p1, .bool p2, .bool p3, .bool p4, .bool p5, .bool p6, .bool p7, .bool p8] 59)).alloc (.cells #[.slice none 0 0] 62) := ⟨_, rfl⟩
  have h12 := below_then HB1.out HB2.out
  have hbW : Below X.heap.size X W0 := below_then h12 (hW0 ▸ below_alloc (below_alloc (Below.refl _ _) _) _)
  have hws : W0.heap.size = V + 1 := by rw [hW0, World.size_alloc, World.size_alloc, hV]
  have hwlt : w.heap.size < V := by have := h12.size; have := HXS.out; omega
  have hmc : ∀ Z, Below V W0 Z → Z.heap[w.heap.size]? = some (.cells mm.cs 28 (0, 0)) := fun Z hZ => (hZ.block _ hwlt).trans (HCELL.out _ hbW)
  have hpc : ∀ Z, Below V W0 Z → Z.heap[w2.heap.size]? = some (.cells (Pt.cs ⟨p0, p1, p2, p3, p4, p5, p6, p7, p8⟩) 59 (0, 0)) := fun Z hZ => (hZ.block _ (by omega)).trans (hW0 ▸ (heap_alloc_old _ _ (by simp)).trans (heap_alloc_new w2 _))
  have hvc : W0.heap[V]? = some (.cells #[.slice none 0 0] 62 (0, 0)) := by rw [hW0, hV]; exact alloc_new1 w2 _ _
  obtain ⟨b0, b1, b2, b3, _, _, _, _, _, _, _, _, _, _⟩ := ms_cells (hmc W0 (Below.refl _ _))
  rw [HMM.out] at b0 b1 b2 b3
  simp only at b0 b1 b2 b3
  have HBW := Lib.hid hbW
  have HWS := Lib.hid hws
  have HMC := Lib.hid hmc
  have HPC := Lib.hid hpc
  have HVC := Lib.hid hvc
  have HW0 := Lib.hid hW0
  have HVV := Lib.hid hV
  have HWLT := Lib.hid hwlt
  rw [hW0] at b0 b1 b2 b3
  clear hV hW0 hbW hws hmc hpc hvc h12 HB1 HB2 HCELL hwlt
  go_wp2_with fail
  rw [← HW0.out, ← HVV.out]
  clear b0 b1 b2 b3
  obtain ⟨W1, hW1⟩ : ∃ W1, W1 = W0.alloc (.cells #[.int .i64 kind, .int .i64 fr, .int .i64 tt, .int .i64 term] 2) := ⟨_, rfl⟩
  have hE1 : W1.heap[V + 1]? = some (.cells #[.int .i64 kind, .int .i64 fr, .int .i64 tt, .int .i64 term] 2 (0, 0)) := by rw [hW1, ← HWS.out]; exact heap_alloc_new W0 _
  have hI0 : EncI W0 V W1 [] none := ⟨⟨none, 0, by rw [hW1]; exact (heap_alloc_old _ _ (by rw [HWS.out]; omega)).trans HVC.out, World.ownsRow_nil _ _ _ _, rfl⟩, by rw [hW1]; exact (Below.refl _ _).alloc (by rw [HWS.out]; omega) _⟩
  have HI0 := Lib.hid hI0
  have HE1 := Lib.hid hE1
  try rw [← hW1]
  clear hE1 hI0 hW1
  have hbx : ∀ Z, Below V W0 Z → Below X.heap.size X Z := fun Z hZ => HBW.out.trans (hZ.mono (by have := HXS.out; have := HWLT.out; omega))
  have HBX := Lib.hid hbx
  clear hbx
  go_loopw [40] (fun i wr => ∃ (k : Nat) (vs : List Vl) (row : Option Nat), i = .int .i64 k ∧ k ≤ 4 ∧ Hid (vs = ([kind, fr, tt, term].take k).map numV) ∧ Hid (EncI W0 V wr vs row) ∧ Hid (wr.heap[V + 1]? = some (.cells #[.int .i64 kind, .int .i64 fr, .int .i64 tt, .int .i64 term] 2 (0, 0))) ∧ Hid (row ≠ some (V + 1))) (fun i _ => 4 - (intOf i).toNat)
  case atStart => exact ⟨0, [], none, rfl, by omega, rfl, HI0.out, HE1.out, fun h => by cases h⟩
  case round =>
    obtain ⟨k, vs, row, rfl, hk, HVS, HI, HE, HNE⟩ := hrel
    by_cases hlt : k < 4
    · obtain ⟨b, o, z, hbo, hz, hc⟩ := cellZ_at (RowN.of_block (n := 4) (size := 1) (vs := cellsZ [kind, fr, tt, term]) HE.out rfl rfl) k hlt
      cases hbo
      rw [Nat.zero_add] at hc
      have hkn : (k : Int) < 4 := by omega
      have hcl := encNum_any true z V vs row wr HI.out.1 (by rw [HVS.out, List.length_map, List.length_take]; omega)
      have HCL := Lib.hid hcl
      have HZ := Lib.hid hz
      clear hcl hz HI0 HE1
      go_wp2_with fail
      refine HCL.out.mono ?_
      rintro e w4 hp
      obtain ⟨rfl, row', hi, hrw, ht⟩ := EncI.next HI.out hp
      have hlE : V + 1 < wr.heap.size := (Array.getElem?_eq_some_iff.1 HE.out).1
      have hE' : w4.heap[V + 1]? = some (.cells #[.int .i64 kind, .int .i64 fr, .int .i64 tt, .int .i64 term] 2 (0, 0)) := (keepE ht hlE (by omega) HNE.out).trans HE.out
      have hN' : row' ≠ some (V + 1) := fun h => by rcases hrw _ h with h | h; exact HNE.out h; omega
      have hv' : vs ++ ifV true (numV z) = ([kind, fr, tt, term].take (k + 1)).map numV := by
        rw [HVS.out, List.take_add_one, HZ.out, List.map_append]
        rfl
      rw [hv'] at hi
      have HI' := Lib.hid hi
      have HE' := Lib.hid hE'
      have HN' := Lib.hid hN'
      clear hp hi hrw ht hE' hN' hv' HCL HI HE HVS HZ hlE
      go_wp2_with fail
      go_roundw
      case rel => exact ⟨k + 1, _, row', by go_num, by omega, rfl, HI'.out, HE'.out, HN'.out⟩
      case measure => simp [intOf]; omega
    · have hke : k = 4 := by omega
      subst hke
      obtain ⟨vs0, hvs0⟩ : ∃ x, x = vs := ⟨_, rfl⟩
      rw [← hvs0] at HVS HI
      have HVS0 : Hid (vs0 = [numV kind, numV fr, numV tt, numV term]) := HVS.out
      have HL0 : Hid (vs0.length ≤ 4) := by show _ ≤ _; rw [HVS.out]; simp
      have HI1 := HI
      clear HI HVS HE HNE HI0 HE1 hvs0 vs
      obtain ⟨_, _, _, _, b4, _, _, _, _, _, _, _, _, _⟩ := ms_cells (HMC.out _ HI1.out.2)
      rw [HMM.out] at b4
      obtain ⟨q0, _, _, _, _, _, _, _, _⟩ := nine_cells (HPC.out _ HI1.out.2)
      simp only at b4 q0
      have HCL := Lib.hid (encNum_any p0 index V _ _ _ HI1.out.1 (by have := HL0.out; omega))
      go_wp2_with fail
      refine HCL.out.mono ?_
      rintro e x2 hp
      obtain ⟨rfl, row2, hi, _, _⟩ := EncI.next HI1.out hp
      obtain ⟨vs1, hvs⟩ : ∃ x, x = vs0 ++ ifV p0 (numV index) := ⟨_, rfl⟩
      rw [← hvs] at hi
      have HI2 := Lib.hid hi
      have HVS1 := Lib.hid hvs
      have HL1 : Hid (vs1.length ≤ 5) := by show _ ≤ _; rw [hvs, List.length_append]; have := ifV_len p0 (numV index); have := HL0.out; omega
      clear hp hi hvs HCL HI1 HL0 b4 q0
      obtain ⟨_, _, _, _, _, b5, _, _, _, _, _, _, _, _⟩ := ms_cells (HMC.out _ HI2.out.2)
      rw [HMM.out] at b5
      obtain ⟨_, q1, _, _, _, _, _, _, _⟩ := nine_cells (HPC.out _ HI2.out.2)
      simp only at b5 q1
      have HCL := Lib.hid (encNum_any p1 logTerm V _ _ _ HI2.out.1 (by have := HL1.out; omega))
      go_wp2_with fail
      refine HCL.out.mono ?_
      rintro e x3 hp
      obtain ⟨rfl, row3, hi, _, _⟩ := EncI.next HI2.out hp
      obtain ⟨vs2, hvs⟩ : ∃ x, x = vs1 ++ ifV p1 (numV logTerm) := ⟨_, rfl⟩
      rw [← hvs] at hi
      have HI3 := Lib.hid hi
      have HVS2 := Lib.hid hvs
      have HL2 : Hid (vs2.length ≤ 6) := by show _ ≤ _; rw [hvs, List.length_append]; have := ifV_len p1 (numV logTerm); have := HL1.out; omega
      clear hp hi hvs HCL HI2 HL1 b5 q1
      obtain ⟨_, _, _, _, _, _, b6, _, _, _, _, _, _, _⟩ := ms_cells (HMC.out _ HI3.out.2)
      rw [HMM.out] at b6
      obtain ⟨_, _, q2, _, _, _, _, _, _⟩ := nine_cells (HPC.out _ HI3.out.2)
      simp only at b6 q2
      have HCL := Lib.hid (encNum_any p2 commit V _ _ _ HI3.out.1 (by have := HL2.out; omega))
      go_wp2_with fail
      refine HCL.out.mono ?_
      rintro e x4 hp
      obtain ⟨rfl, row4, hi, _, _⟩ := EncI.next HI3.out hp
      obtain ⟨vs3, hvs⟩ : ∃ x, x = vs2 ++ ifV p2 (numV commit) := ⟨_, rfl⟩
      rw [← hvs] at hi
      have HI4 := Lib.hid hi
      have HVS3 := Lib.hid hvs
      have HL3 : Hid (vs3.length ≤ 7) := by show _ ≤ _; rw [hvs, List.length_append]; have := ifV_len p2 (numV commit); have := HL2.out; omega
      clear hp hi hvs HCL HI3 HL2 b6 q2
      obtain ⟨_, _, _, _, _, _, _, b7, _, _, _, _, _, _⟩ := ms_cells (HMC.out _ HI4.out.2)
      rw [HMM.out] at b7
      obtain ⟨_, _, _, q3, _, _, _, _, _⟩ := nine_cells (HPC.out _ HI4.out.2)
      simp only at b7 q3
      have HCL := Lib.hid (encFlag_any p3 ok V _ _ _ HI4.out.1 (by have := HL3.out; omega))
      go_wp2_with fail
      refine HCL.out.mono ?_
      rintro e x5 hp
      obtain ⟨rfl, row5, hi, _, _⟩ := EncI.next HI4.out hp
      obtain ⟨vs4, hvs⟩ : ∃ x, x = vs3 ++ ifV p3 (flagV ok) := ⟨_, rfl⟩
      rw [← hvs] at hi
      have HI5 := Lib.hid hi
      have HVS4 := Lib.hid hvs
      have HL4 : Hid (vs4.length ≤ 8) := by show _ ≤ _; rw [hvs, List.length_append]; have := ifV_len p3 (flagV ok); have := HL3.out; omega
      clear hp hi hvs HCL HI4 HL3 b7 q3
      obtain ⟨_, _, _, _, _, _, _, _, b8, _, _, _, _, _⟩ := ms_cells (HMC.out _ HI5.out.2)
      rw [HMM.out] at b8
      obtain ⟨_, _, _, _, q4, _, _, _, _⟩ := nine_cells (HPC.out _ HI5.out.2)
      simp only at b8 q4
      have HCL := Lib.hid (encNum_any p4 (en : Nat) V _ _ _ HI5.out.1 (by have := HL4.out; omega))
      go_wp2_with fail
      refine HCL.out.mono ?_
      rintro e x6 hp
      obtain ⟨rfl, row6, hi, _, _⟩ := EncI.next HI5.out hp
      obtain ⟨vs5, hvs⟩ : ∃ x, x = vs4 ++ ifV p4 (numV (en : Nat)) := ⟨_, rfl⟩
      rw [← hvs] at hi
      have HI6 := Lib.hid hi
      have HVS5 := Lib.hid hvs
      have HL5 : Hid (vs5.length ≤ 9) := by show _ ≤ _; rw [hvs, List.length_append]; have := ifV_len p4 (numV (en : Nat)); have := HL4.out; omega
      clear hp hi hvs HCL HI5 HL4 b8 q4
      have hrows := fun Z (hZ : Below V W0 Z) => (HM.out.below (HBX.out Z hZ)).row
      have hlen := HM.out.len
      rw [HMM.out] at hrows hlen
      simp only at hrows hlen
      have HROWS := Lib.hid hrows
      have HLEN := Lib.hid hlen
      clear hrows hlen
      obtain ⟨b8, HB8⟩ : ∃ _ : x6.cell? ⟨w.heap.size, 8, none⟩ = some (.slice ea en ecap), True := ⟨by obtain ⟨_, _, _, _, _, _, _, _, h8, _, _, _, _, _⟩ := ms_cells (HMC.out _ HI6.out.2); rw [HMM.out] at h8; exact h8, trivial⟩
      clear HB8
      go_wp2_with fail
      go_loopw [82] (fun i wr => ∃ (k : Nat) (vs : List Vl) (row : Option Nat), i = .int .i64 k ∧ k ≤ en ∧ Hid (vs = vs5 ++ entVs (es.take k)) ∧ Hid (EncI W0 V wr vs row)) (fun i _ => en - (intOf i).toNat)
      case atStart => exact ⟨0, vs5, row6, rfl, by omega, by show _ = _; simp [entVs], HI6.out⟩
      case round =>
        obtain ⟨k, vs, row, rfl, hk, HVS, HI⟩ := hrel
        have HLV : Hid (vs.length ≤ 9 + 3 * k) := by
          have hh : ∀ l : List En, (entVs l).length = 3 * l.length := fun l => by
            induction l with
            | nil => rfl
            | cons e r ih => rw [entVs, List.flatMap_cons, List.length_append, ← entVs, ih, List.length_cons]; simp; omega
          show _ ≤ _
          rw [HVS.out, List.length_append, hh, List.length_take]
          have := HL5.out
          omega
        by_cases hlt : k < en
        · obtain ⟨u, hek⟩ : ∃ u, es[k]? = some u := ⟨_, List.getElem?_eq_getElem (by rw [HLEN.out]; exact hlt)⟩
          obtain ⟨eb, eo, hea, e0, e1, e2, e3⟩ := en_at (HROWS.out _ HI.out.2) HLEN.out k hlt u hek
          have hkn : (k : Int) < (en : Int) := by omega
          have hvE : V < wr.heap.size := HI.out.1.lt
          obtain ⟨E, hE⟩ : ∃ E, E = wr.heap.size := ⟨_, rfl⟩
          obtain ⟨y0, hy0⟩ : ∃ Y, Y = wr.alloc (.cells #[.int .i64 u.ix, .int .i64 u.tm, .int .i64 u.kd, .slice u.s.a u.s.len u.s.cap] 41) := ⟨_, rfl⟩
          have hby : Below wr.heap.size wr y0 := hy0 ▸ below_alloc (Below.refl _ _) _
          have hEc : y0.heap[E]? = some (.cells #[.int .i64 u.ix, .int .i64 u.tm, .int .i64 u.kd, .slice u.s.a u.s.len u.s.cap] 41 (0, 0)) := by rw [hE, hy0]; exact heap_alloc_new wr _
          have hys : y0.heap.size = E + 1 := by rw [hy0, World.size_alloc, hE]
          have hi0 := HI.out.below hby
          have hne0 : row ≠ some E := fun h => by have := (HI.out.1.row_lt E h).2; omega
          obtain ⟨⟨f0, f1, f2, f3⟩, _⟩ := four_cells hEc
          have HJ0 := Lib.hid hi0
          have HEC := Lib.hid hEc
          have HYS := Lib.hid hys
          have HNE0 := Lib.hid hne0
          have HY0 := Lib.hid hy0
          have HEE := Lib.hid hE
          have HEK := Lib.hid hek
          have HVE : Hid (V < E) := by show _ < _; omega
          rw [hE, hy0] at f1
          clear hby hEc hys hi0 hne0 hy0 hE hek f0 f2 f3 HI hvE
          subst hea
          have HC1 := Lib.hid (encNum_any true u.tm V _ _ _ HJ0.out.1 (by have := HLV.out; omega))
          go_wp2_with fail
          rw [← HY0.out, ← HEE.out]
          refine HC1.out.mono ?_
          rintro e y1 hp
          obtain ⟨rfl, ro1, hi, hrw, ht⟩ := EncI.next HJ0.out hp
          have hc1 := (keepE ht (by rw [HYS.out]; omega) HVE.out HNE0.out).trans HEC.out
          have hs1 : E < y1.heap.size := by have := ht.size; have := HYS.out; omega
          have hn1 : ro1 ≠ some E := fun h => by rcases hrw _ h with h | h; exact HNE0.out h; have := HYS.out; omega
          obtain ⟨⟨_, _, f2, _⟩, _⟩ := four_cells hc1
          have HJ1 := Lib.hid hi
          have HEC1 := Lib.hid hc1
          have HS1 := Lib.hid hs1
          have HNE1 := Lib.hid hn1
          clear hp hi hrw ht hc1 hs1 hn1 HC1 f1 e0 e1 e2 e3
          have HC2 := Lib.hid (encNum_any true u.kd V _ _ _ HJ1.out.1 (by have := HLV.out; have := ifV_len true (numV u.tm); rw [List.length_append]; omega))
          go_wp2_with fail
          refine HC2.out.mono ?_
          rintro e y2 hp
          obtain ⟨rfl, ro2, hi, hrw, ht⟩ := EncI.next HJ1.out hp
          have hc2 := (keepE ht HS1.out HVE.out HNE1.out).trans HEC1.out
          have hs2 : E < y2.heap.size := by have := ht.size; have := HS1.out; omega
          have hn2 : ro2 ≠ some E := fun h => by rcases hrw _ h with h | h; exact HNE1.out h; have := HS1.out; omega
          obtain ⟨⟨_, _, _, f3⟩, _⟩ := four_cells hc2
          have HJ2 := Lib.hid hi
          clear hp hi hrw ht hc2 hs2 hn2 HC2 f2
          have HC3 := Lib.hid (encBytes_any true u.s V _ _ _ HJ2.out.1 (by have := HLV.out; have := ifV_len true (numV u.tm); have := ifV_len true (numV u.kd); rw [List.length_append, List.length_append]; omega))
          go_wp2_with fail
          refine HC3.out.mono ?_
          rintro e y3 hp
          obtain ⟨rfl, ro3, hi, hrw, ht⟩ := EncI.next HJ2.out hp
          have hv' : vs ++ ifV true (numV u.tm) ++ ifV true (numV u.kd) ++ ifV true (bytesV u.s) = vs5 ++ entVs (es.take (k + 1)) := by
            rw [HVS.out, List.take_add_one, HEK.out]
            simp [entVs, ifV]
          rw [hv'] at hi
          have HJ3 := Lib.hid hi
          clear hp hi hrw ht hv' HC3 f3
          go_wp2_with fail
          go_roundw
          case rel => exact ⟨k + 1, _, ro3, by go_num, by omega, rfl, HJ3.out⟩
          case measure => simp [intOf]; omega
        · have hke : k = en := by omega
          have HVS6 : Hid (vs = vs5 ++ entVs es) := by
            have := HVS.out
            rwa [List.take_of_length_le (by rw [HLEN.out]; omega)] at this
          obtain ⟨vs6, hvs6⟩ : ∃ x, x = vs := ⟨_, rfl⟩
          rw [← hvs6] at HVS6 HI HLV
          have HI7 := HI
          have HL6 : Hid (vs6.length ≤ 33) := by have := HLV.out; show _ ≤ _; omega
          clear HI HVS HLV hvs6 vs HI6 HL5 hke
          obtain ⟨_, _, _, _, _, _, _, _, _, b9, _, _, _, _⟩ := ms_cells (HMC.out _ HI7.out.2)
          rw [HMM.out] at b9
          obtain ⟨_, _, _, _, _, q5, _, _, _⟩ := nine_cells (HPC.out _ HI7.out.2)
          simp only at b9 q5
          have HCL := Lib.hid (encNum_any p5 off V _ _ _ HI7.out.1 (by have := HL6.out; omega))
          go_wp2_with fail
          refine HCL.out.mono ?_
          rintro e x8 hp
          obtain ⟨rfl, row8, hi, _, _⟩ := EncI.next HI7.out hp
          obtain ⟨vs7, hvs⟩ : ∃ x, x = vs6 ++ ifV p5 (numV off) := ⟨_, rfl⟩
          rw [← hvs] at hi
          have HI8 := Lib.hid hi
          have HVS7 := Lib.hid hvs
          have HL7 : Hid (vs7.length ≤ 34) := by show _ ≤ _; rw [hvs, List.length_append]; have := ifV_len p5 (numV off); have := HL6.out; omega
          clear hp hi hvs HCL HI7 HL6 b9 q5
          obtain ⟨_, _, _, _, _, _, _, _, _, _, b10, _, _, _⟩ := ms_cells (HMC.out _ HI8.out.2)
          rw [HMM.out] at b10
          obtain ⟨_, _, _, _, _, _, q6, _, _⟩ := nine_cells (HPC.out _ HI8.out.2)
          simp only at b10 q6
          have HCL := Lib.hid (encBytes_any p6 d V _ _ _ HI8.out.1 (by have := HL7.out; omega))
          go_wp2_with fail
          refine HCL.out.mono ?_
          rintro e x9 hp
          obtain ⟨rfl, row9, hi, _, _⟩ := EncI.next HI8.out hp
          obtain ⟨vs8, hvs⟩ : ∃ x, x = vs7 ++ ifV p6 (bytesV d) := ⟨_, rfl⟩
          rw [← hvs] at hi
          have HI9 := Lib.hid hi
          have HVS8 := Lib.hid hvs
          have HL8 : Hid (vs8.length ≤ 35) := by show _ ≤ _; rw [hvs, List.length_append]; have := ifV_len p6 (bytesV d); have := HL7.out; omega
          clear hp hi hvs HCL HI8 HL7 b10 q6
          obtain ⟨_, _, _, _, _, _, _, _, _, _, _, b11, _, _⟩ := ms_cells (HMC.out _ HI9.out.2)
          rw [HMM.out] at b11
          obtain ⟨_, _, _, _, _, _, _, q7, _⟩ := nine_cells (HPC.out _ HI9.out.2)
          simp only at b11 q7
          have HCL := Lib.hid (encFlag_any p7 last V _ _ _ HI9.out.1 (by have := HL8.out; omega))
          go_wp2_with fail
          refine HCL.out.mono ?_
          rintro e x10 hp
          obtain ⟨rfl, row10, hi, _, _⟩ := EncI.next HI9.out hp
          obtain ⟨vs9, hvs⟩ : ∃ x, x = vs8 ++ ifV p7 (flagV last) := ⟨_, rfl⟩
          rw [← hvs] at hi
          have HI10 := Lib.hid hi
          have HVS9 := Lib.hid hvs
          have HL9 : Hid (vs9.length ≤ 36) := by show _ ≤ _; rw [hvs, List.length_append]; have := ifV_len p7 (flagV last); have := HL8.out; omega
          clear hp hi hvs HCL HI9 HL8 b11 q7
          obtain ⟨_, _, _, _, _, _, _, _, _, _, _, _, b12, b13⟩ := ms_cells (HMC.out _ HI10.out.2)
          rw [HMM.out] at b12 b13
          simp only at b12 b13
          have hm10 := HM.out.below (HBX.out _ HI10.out.2)
          have hcb := cbytes_any mm.c x10 ⟨hm10.cv, hm10.cl⟩ HCN.out
          rw [HMM.out] at hcb
          simp only at hcb
          have HCB := Lib.hid hcb
          clear hm10 hcb
          go_wp2_with fail
          refine HCB.out.mono ?_
          rintro e x11 ⟨cao, ccap, rfl, hco, hbc⟩
          obtain ⟨cbs, hcbs⟩ : ∃ x, x = (cBytes c.v.zs c.l.zs).1 := ⟨_, rfl⟩
          obtain ⟨cer, hcer⟩ : ∃ x, x = (cBytes c.v.zs c.l.zs).2 := ⟨_, rfl⟩
          have hcl := cBytes_len c.v.zs c.l.zs
          rw [← hcbs] at hco hcl
          simp only [← hcbs, ← hcer]
          have HI11 := Lib.hid (HI10.out.below hbc)
          have HCO := Lib.hid hco
          have HCL := Lib.hid hcl
          have HCBS := Lib.hid hcbs
          have HSZ : Hid (V < x10.heap.size ∧ (∀ g, row10 = some g → g < x10.heap.size)) := ⟨HI10.out.1.lt, fun g hg => (HI10.out.1.row_lt g hg).2⟩
          obtain ⟨_, _, _, _, _, _, _, _, q8⟩ := nine_cells (HPC.out _ HI11.out.2)
          simp only at q8
          clear hbc hco hcl hcbs hcer HCB HI10 b12 b13
          have HC1 := Lib.hid (encBytes_any p8 ⟨cao, cbs.length, ccap, cbs⟩ V _ _ _ HI11.out.1 (by have := HL9.out; omega))
          go_wp2_with fail
          refine HC1.out.mono ?_
          rintro e x12 hp
          obtain ⟨rfl, row12, hi, _, ht⟩ := EncI.next HI11.out hp
          have hcrow : Row8 x12 cao cbs.length cbs := HCO.out.row.touch ht (fun b o hb hn hm => by
            obtain ⟨g, hg, h1, _⟩ := HCO.out.addr hn
            have hbg : b = g := by rw [hb] at hg; injection hg with hg; injection hg
            rcases List.mem_cons.1 hm with h | h
            · have := HSZ.out.1; omega
            · have := HSZ.out.2 b (by simpa using h); omega)
          have hcok : Sl.ok x12 ⟨cao, cbs.length, ccap, cbs⟩ := ⟨hcrow, HCO.out.cap.1, HCO.out.cap.2, HCO.out.nocap⟩
          have hvals : vs9 ++ ifV p8 (bytesV ⟨cao, cbs.length, ccap, cbs⟩) = valsM (namesOf mm.kind).1 mm ⟨cao, cbs.length, ccap, cbs⟩ := by
            rw [HPM.out, HMM.out, HVS9.out, HVS8.out, HVS7.out, HVS6.out, HVS5.out, HVS4.out, HVS3.out, HVS2.out, HVS1.out, HVS0.out]
            simp only [valsM]
          rw [hvals] at hi
          obtain ⟨hok, hbulk⟩ := vals_ok (p := (namesOf mm.kind).1) HR.out (HM.out.below (HBX.out _ hi.2)) hcok (by have := HCL.out; simp only; omega)
          have hall := putAll_all (valsM (namesOf mm.kind).1 mm ⟨cao, cbs.length, ccap, cbs⟩) [] fun v hv => (hok v hv).2
          have henc : (valsM (namesOf mm.kind).1 mm ⟨cao, cbs.length, ccap, cbs⟩).flatMap Vl.bytes = encM mm := by
            rw [encM]
            exact encM_cb (by simp only [confSl, HMM.out, HCBS.out]) (by simp only [confSl, HMM.out, HCBS.out])
          obtain ⟨va, vcap, hVc, hvo, hvr⟩ := hi.1
          have hput := put_any va _ vcap _ x12 (RowN.of_own hvo) rfl (fun v hv => (hok v hv).1) (by omega)
          rw [hall, List.nil_append, henc] at hput
          obtain ⟨v0, _⟩ := vcells hVc
          obtain ⟨L, hL⟩ : ∃ L, L = (valsM (namesOf mm.kind).1 mm ⟨cao, cbs.length, ccap, cbs⟩).length := ⟨_, rfl⟩
          rw [← hL] at hput v0
          have HPUT := Lib.hid hput
          have HBL : Hid (Below w.heap.size w x12) := below_then HXB.out (HBX.out _ hi.2)
          clear hp hi ht hcrow hcok hvals hok hbulk hall henc hVc hvo hvr hput hL HI11 HC1 HL9 q8 HVS9 HVS8 HVS7 HVS6 HVS5 HVS4 HVS3 HVS2 HVS1 HVS0
          obtain ⟨out, hout⟩ : ∃ out, out = encM mm := ⟨_, rfl⟩
          have hpo := HPOST.out
          rw [EncOut, ← hout] at hpo
          rw [← hout] at HPUT
          have HPO := Lib.hid hpo
          clear hpo hout HPOST
          go_wp2_with fail
          refine HPUT.out.mono ?_
          rintro e x13 ⟨ao, cap, rfl, ho13, hb13⟩
          have hfr := frame_all ao out.length cap out x13 ho13.row ho13.nocap
          have HFR := Lib.hid hfr
          have HB13 := Lib.hid (below_then HBL.out hb13)
          clear hfr ho13 hb13 v0
          go_wp2_with fail
          refine HFR.out.mono ?_
          rintro e x14 ⟨fo, fcap, rfl, ho14, hb14⟩
          have HO14 := Lib.hid ho14
          have HB14 := Lib.hid hb14
          clear ho14 hb14
          go_wp2_with fail
          rw [HPO.out]
          exact ⟨fo, fcap, rfl, HO14.out.more HB13.out.size, below_then HB13.out HB14.out⟩

theorem encode_any (m : Ms) (w : World) (h : MsOk w m) (hcn : m.c.v.len ≤ 9223372036854775807 ∧ m.c.l.len ≤ 9223372036854775807) :
    Calls Try.prog 10 #[.agg m.cs] w (RetBytesCode w (encOf m).1.length (encOf m).1 (encOf m).2) := by
  unfold encOf
  cases hr : rightM m with
  | false => exact encode_no m w h hcn hr
  | true => exact encode_yes m w h hcn hr
end Go.Proofs.Ytcejamblndilbaa
