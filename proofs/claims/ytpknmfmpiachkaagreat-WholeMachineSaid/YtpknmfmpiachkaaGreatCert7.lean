/- slices.Delete of the first transaction; sum's note. -/
import Derived.Test.YtpknmfmpiachkaaGreatCert5
import Derived.Deep.RegionLaw
namespace Go.Proofs.YtpknmfmpiachkaaGreat
open Go.RowKit
theorem run_clear_one {P : Program} (w : World) (t e ty : TypeId) (z : Value) (vs : List Value) (ht : P.underlying t = some (.slice e)) (hv : ∀ w, (zeroValue e).run P w = .ok z w) (hz : z.cells = vs.toArray) (h1 : ∀ u ∈ vs, u.oneCell' = true) (b o c : Nat)
 (hc : ∀ j, j < vs.length → (w.cell? ⟨b, o + j, none⟩).isSome = true) (hf : ∀ j, j < vs.length → w.frozen? ⟨b, o + j, none⟩ = false) :
 (Builtin.clear_ #[t] ty #[.slice (some ⟨b, o, none⟩) 1 c]).run P w = .ok (.tuple #[]) (w.setCells b o vs) := by
 have hzc : (Builtin.zeroCells z.cells 1).toList = vs := by
  rw [hz]
  simp only [Builtin.zeroCells]
  apply List.ext_getElem
  · simp
  · intro i h1 h2
    simp [Nat.mod_eq_of_lt h2, h2]
 have hst := run_storeCells_cells (P := P) b o vs 0 w (by simpa using hc) (by simpa using hf) h1
 simp only [Nat.add_zero] at hst
 simp [Builtin.clear_, run_underlying ht, hv, hzc, hst]
theorem cells_oneR (L : List RecV) : ∀ u ∈ L.flatMap RecV.cells, u.oneCell' = true := fun u hu => by
 obtain ⟨v, _, hu⟩ := List.mem_flatMap.1 hu
 simp only [RecV.cells, List.mem_cons, List.not_mem_nil, or_false] at hu
 rcases hu with rfl | rfl | rfl | rfl | rfl | rfl | rfl | rfl <;> rfl
theorem flatR_len (L : List RecV) : (L.flatMap RecV.cells).length = L.length * 8 := by
 induction L with
 | nil => rfl
 | cons x r ih => rw [List.flatMap_cons, List.length_append, ih, List.length_cons]; simp [RecV.cells]; omega
def zeroR : List Value := [.int .i64 0, .int .i64 0, .int .i64 0, .int .i64 0, .slice none 0 0, .slice none 0 0, .slice none 0 0, .bool false]
theorem info_rec : (Tryz.prog.info? 77).map (fun i => (i.zero, i.size, i.bytes)) = some (some (.agg zeroR.toArray), 8, 112) := by kernel_rfl
theorem splice_take {α : Type} (L : List α) (off : Nat) (vs : List α) (h : off ≤ L.length) : (splice L off vs).take off = L.take off := by
 unfold splice
 rw [List.take_append_of_le_length (by rw [List.length_take]; omega), List.take_take, Nat.min_self]
def RetDel (w : World) (base g n cap : Nat) (L : List RecV) (e : Ending) (w' : World) : Prop :=
 e = .returned (.slice (some ⟨g, 0, none⟩) n cap) ∧ w'.ownsRow base 77 8 (.slice (some ⟨g, 0, none⟩) n cap) n (L.flatMap RecV.cells) ∧ w.grownBy w' (some g)
set_option maxRecDepth 100000 in
set_option maxHeartbeats 6400000 in
theorem delR_any (base g n cap : Nat) (r0 : RecV) (rest : List RecV) (hl : rest.length = n) (hn : n ≤ 1000) (w : World) (h : w.ownsRow base 77 8 (.slice (some ⟨g, 0, none⟩) (n + 1) cap) (n + 1) ((r0 :: rest).flatMap RecV.cells)) :
 Calls Tryz.prog 27 #[.slice (some ⟨g, 0, none⟩) (n + 1) cap, .int .i64 0, .int .i64 1] w (RetDel w base g n cap rest) := by
 obtain ⟨i0, hi, hz0, hz1, hz2⟩ := info_parts info_rec
 obtain ⟨hlen, hown⟩ := h
 rcases hown with ⟨h9, _⟩ | ⟨g', cp, cur, h9, h10, h11, h12, h13, h14, h15⟩
 · cases h9
 simp only [Value.slice.injEq, Option.some.injEq, Addr.mk.injEq, and_true, true_and] at h9
 obtain ⟨rfl, rfl⟩ := h9
 obtain ⟨cur, rfl⟩ : ∃ l : List Value, cur = l.toArray := ⟨cur.toList, by simp⟩
 rw [List.size_toArray] at h14
 have hflat := flatR_len rest
 have hcl : (r0 :: rest).flatMap RecV.cells = r0.cells ++ rest.flatMap RecV.cells := by rw [List.flatMap_cons]
 have hr0 : r0.cells.length = 8 := rfl
 -- the cells that are moved to the left
 have hcell : ∀ j u, (rest.flatMap RecV.cells)[j]? = some u → w.cell? ⟨g, 8 + j, none⟩ = some u := by
  intro j u hu
  have hj := (List.getElem?_eq_some_iff.1 hu).1
  have h1 : ((r0 :: rest).flatMap RecV.cells)[8 + j]? = some u := by
   rw [hcl, List.getElem?_append_right (by omega), hr0, Nat.add_sub_cancel_left]
   exact hu
  rw [← h15, List.getElem?_take] at h1
  split at h1
  · simp only [World.cell?, h11]
    simpa using h1
  · cases h1
 have hthere : ∀ j, j < (n + 1) * 8 → (w.cell? ⟨g, j, none⟩).isSome = true ∧ w.frozen? ⟨g, j, none⟩ = false := by
  intro j hj
  have : j < cur.length := by rw [h14]; have := Nat.mul_le_mul_right 8 h12; omega
  constructor
  · simp only [World.cell?, h11]
    simp [this]
  · simp [World.frozen?, h11]
 obtain ⟨A, hA, hsrc⟩ : ∃ A : Addr, (if cap = 1 then some (⟨g, 0, none⟩ : Addr) else some ⟨g, 8, none⟩) = some A ∧ Hid (∀ t u, (rest.flatMap RecV.cells)[t]? = some u → w.drew.cell? (A.add t) = some u) := by
  by_cases hc : cap = 1
  · refine ⟨⟨g, 0, none⟩, by simp [hc], fun t u hu => ?_⟩
    have h0 : rest = [] := List.eq_nil_of_length_eq_zero (by omega)
    subst h0
    cases hu
  · exact ⟨⟨g, 8, none⟩, by simp [hc], fun t u hu => by rw [add_plain]; exact hcell t u hu⟩
 obtain ⟨W1, hW1⟩ : ∃ W1, W1 = w.drew.setCells g 0 (rest.flatMap RecV.cells) := ⟨_, rfl⟩
 have hsp : 0 + (rest.flatMap RecV.cells).length ≤ cur.length := by rw [hflat, h14, hl]; have := Nat.mul_le_mul_right 8 h12; omega
 have hB1 : W1.heap[g]? = some (.cells (splice cur 0 (rest.flatMap RecV.cells)).toArray 77 (0, 0)) := by
  rw [hW1]; exact setCells_block g _ (0, 0) _ 0 w.drew cur h11 hsp
 have hT1 : Touch [g] w W1 := by rw [hW1]; exact ((Touch.refl _ _).drew).trans (setCells_touch g _ _ _)
 have hl1 : (splice cur 0 (rest.flatMap RecV.cells)).length = cap * 8 := by unfold splice; simp only [List.length_append, List.length_take, List.length_drop, Nat.zero_add]; omega
 have hthere1 : ∀ j, j < (n + 1) * 8 → (W1.cell? ⟨g, j, none⟩).isSome = true ∧ W1.frozen? ⟨g, j, none⟩ = false := by
  intro j hj
  have : j < (splice cur 0 (rest.flatMap RecV.cells)).length := by rw [hl1]; have := Nat.mul_le_mul_right 8 h12; omega
  constructor
  · simp only [World.cell?, hB1]
    simp [this]
  · simp [World.frozen?, hB1]
 have hzl : zeroR.length = 8 := rfl
 have hclear : ∀ ty, (Builtin.clear_ #[68] ty #[.slice (some ⟨g, n * 8, none⟩) 1 (cap - n)]).run Tryz.prog W1 = .ok (.tuple #[]) (W1.setCells g (n * 8) zeroR) := fun ty =>
  run_clear_one W1 _ _ ty (.agg zeroR.toArray) zeroR Tryz.underlying68 (fun w => by kernel_rfl) rfl (by decide) g (n * 8) (cap - n) (fun j hj => (hthere1 _ (by omega)).1) (fun j hj => (hthere1 _ (by omega)).2)
 obtain ⟨W2, hW2⟩ : ∃ W2, W2 = W1.setCells g (n * 8) zeroR := ⟨_, rfl⟩
 have hB2 : W2.heap[g]? = some (.cells (splice (splice cur 0 (rest.flatMap RecV.cells)) (n * 8) zeroR).toArray 77 (0, 0)) := by
  rw [hW2]; exact setCells_block g _ (0, 0) _ _ W1 _ hB1 (by rw [hl1, hzl]; have := Nat.mul_le_mul_right 8 h12; omega)
 have hT2 : Touch [g] w W2 := by rw [hW2]; exact hT1.trans (setCells_touch g _ _ _)
 have hpost : RetDel w base g n cap rest (.returned (.slice (some ⟨g, 0, none⟩) n cap)) W2 := by
  refine ⟨rfl, ⟨by rw [hflat, hl], .inr ⟨g, cap, _, rfl, h10, hB2, by omega, h13, ?_, ?_⟩⟩, ⟨hT2.os, hT2.tape, hT2.output, hT2.size, fun k hk hne => hT2.block k hk (by simpa using fun e => hne (by rw [e]))⟩⟩
  · rw [List.size_toArray]
    unfold splice
    simp only [List.length_append, List.length_take, List.length_drop, Nat.zero_add, hzl]
    have := Nat.mul_le_mul_right 8 h12
    omega
  · have e1 : (splice (splice cur 0 (rest.flatMap RecV.cells)) (n * 8) zeroR).take (n * 8) = (splice cur 0 (rest.flatMap RecV.cells)).take (n * 8) :=
     splice_take _ _ _ (by rw [hl1]; have := Nat.mul_le_mul_right 8 h12; omega)
    rw [e1]
    unfold splice
    rw [List.take_zero, List.nil_append, List.take_append_of_le_length (by omega), List.take_of_length_le (by omega)]
 have hin : (n : Int) + 1 ≤ 9223372036854775807 := by omega
 have hroom := h12
 have mixed : Tryz.prog.follows .mixedOrders = true := by kernel_rfl
 have h1c : 1 ≤ cap := by omega
 have h1z : (1 : Int) ≤ (n : Int) + 1 := by omega
 have hnc : (n : Int) + 1 ≤ (cap : Int) := by omega
 have HSRC := hsrc
 have HSPARE : Hid (∀ j, j < (rest.flatMap RecV.cells).length → (w.drew.cell? ⟨g, 0 + 0 * 8 + j, none⟩).isSome = true ∧ w.drew.frozen? ⟨g, 0 + 0 * 8 + j, none⟩ = false) := fun j hj => by
  have := hthere j (by omega)
  simpa using this
 have HCLEAR := Lib.hid hclear
 have HPOST := Lib.hid hpost
 have HW1 := Lib.hid hW1
 have HW2 := Lib.hid hW2
 have HFL : Hid ((rest.flatMap RecV.cells).length = n * 8) := by show _ = _; rw [hflat, hl]
 have hcap : cap ≤ 9223372036854775807 := h13
 clear hsrc hclear hpost hW1 hW2 hB1 hB2 hT1 hT2 hl1 hthere hthere1 hcell hcl h15 h11 h10 h14 hflat hsp hlen hr0 h13
 go_enter Tryz.func27, Tryz.ntmps27
 go_wp2_with fail
 go_region_law_o (refine step_append_room rfl (.tmp 22) (.tmp 25) 68 rfl 77 i0 8 Tryz.underlying68 hi hz1 g 0 0 cap (by simp [Act.eval, Act.put]) A n (cap - 1) (rest.flatMap RecV.cells) (by simp [Act.eval, Act.put]) HFL.out HSRC.out (cells_oneR _) (by omega) HSPARE.out ?_; rw [← HW1.out])
 have hq := HCLEAR.out
 have hcn : ¬ cap = n := by omega
 go_wp2
 rw [← HW2.out]
 go_ret
 exact HPOST.out
end Go.Proofs.YtpknmfmpiachkaaGreat
namespace Go.Proofs.YtpknmfmpiachkaaGreat
open Go.RowKit
def step1 (old : Nat) (num : Int) (out : Bool) (s : List VI × List VI × Bool) (key : Nat) : List VI × List VI × Bool :=
 (vDone old s.1 key num, if out then vDone old s.2.1 key num else s.2.1, s.2.2 || vFull old s.1 key || (out && vFull old s.2.1 key))
def step2 (old : Nat) (num : Int) (s : List VI × Bool) (key : Nat) : List VI × Bool := (vDone old s.1 key num, s.2 || vFull old s.1 key)
def step3 (old : Nat) (num : Int) (s : List PI × Bool) (x : Spn) : List PI × Bool := (pDone old s.1 x num, s.2 || pFull old s.1 x)
def sum1 (c : CertV) (r : RecV) : List VI × List VI × Bool := r.m.s.writes.foldl (step1 c.old r.num r.out) (c.wrote, c.wroteOut, false)
def sum2 (c : CertV) (r : RecV) : List VI × Bool := r.m.s.reads.foldl (step2 c.old r.num) (c.read, (sum1 c r).2.2)
def sum3 (c : CertV) (r : RecV) : List PI × Bool := r.m.s.spans.foldl (step3 c.old r.num) (c.spans, (sum2 c r).2)
def sumP (c : CertV) (r : RecV) : CertV :=
 if (sum3 c r).2 then { c with wrote := [], wroteOut := [], read := [], spans := [], horizon := r.num }
 else { c with wrote := (sum1 c r).1, wroteOut := (sum1 c r).2.1, read := (sum2 c r).1, spans := (sum3 c r).1 }
theorem vDone_sorted {old : Nat} {L : List VI} (h : SortedV L) {key : Nat} (hk : KeyOk key) (num : Int) : SortedV (vDone old L key num) := by
 unfold vDone; split
 · exact h
 · exact vPut_sorted h hk num
theorem pDone_sorted {old : Nat} {L : List PI} (h : SortedP L) {x : Spn} (hx : GoodS x) (num : Int) : SortedP (pDone old L x num) := by
 unfold pDone; split
 · exact h
 · exact pPut_sorted h hx num
def ec (bad : Bool) : Int := if bad then 3 else 0
theorem ec_or (a b : Bool) : (if ec a = 0 then ec b else ec a) = ec (a || b) := by cases a <;> cases b <;> rfl
structure SumS (κ : Nat → Nat) (w : World) (k A B E : Nat) (C : Array Value) (N1 N2 N3 N4 old : Nat) (a : Option Addr) (n cap : Nat) (rs : List RecV) (r : RecV) (κ' : Nat → Nat) (wx : World) (l1 l2 l3 : List VI) (p : List PI) (bad : Bool) : Prop where
 chg : Chg (fun i => k ≤ i ∧ i ≤ k + 9) κ κ' w wx
 cert : wx.heap[A]? = some (.cells C 70 (0, 0))
 colA : κ' A = k
 t1 : TabAt wx κ' (k + 1) N1 old l1
 t2 : TabAt wx κ' (k + 2) N2 old l2
 t3 : TabAt wx κ' (k + 3) N3 old l3
 t4 : PTabAt wx κ' (k + 4) N4 old p
 s1 : SortedV l1
 s2 : SortedV l2
 s3 : SortedV l3
 s4 : SortedP p
 recs : RecsAt wx κ' (k + 5) (k + 6) a n cap rs
 parts : PartsAt wx κ' (k + 6) r.m
 rcd : wx.heap[B]? = some (.cells r.cells.toArray 77 (0, 0))
 colB : κ' B = k + 7
 e : wx.heap[E]? = some (.cells #[.int .i64 (ec bad)] 33 (0, 0))
 colE : κ' E = k + 8
variable {κ : Nat → Nat} {w : World} {k A B E : Nat} {C : Array Value} {N1 N2 N3 N4 old : Nat} {a : Option Addr} {n cap : Nat} {rs : List RecV} {r : RecV} {κ' κ'' : Nat → Nat} {wx w1 : World} {l1 l2 l3 : List VI} {p : List PI} {bad : Bool}
theorem SumS.drew (h : SumS κ w k A B E C N1 N2 N3 N4 old a n cap rs r κ' wx l1 l2 l3 p bad) : SumS κ w k A B E C N1 N2 N3 N4 old a n cap rs r κ' wx.drew l1 l2 l3 p bad := by
 have hb : Chg (fun _ => False) κ' κ' wx wx.drew := Chg.of_below (Below.refl _ _).drew
 exact ⟨h.chg.drew, h.cert, h.colA, h.t1.chg hb id, h.t2.chg hb id, h.t3.chg hb id, h.t4.chg hb id, h.s1, h.s2, h.s3, h.s4, h.recs.chg hb id id, h.parts.chg hb id, h.rcd, h.colB, h.e, h.colE⟩
theorem SumS.below (h : SumS κ w k A B E C N1 N2 N3 N4 old a n cap rs r κ' wx l1 l2 l3 p bad) (hb : Below wx.heap.size wx w1) : SumS κ w k A B E C N1 N2 N3 N4 old a n cap rs r κ' w1 l1 l2 l3 p bad := by
 have hc : Chg (fun _ => False) κ' κ' wx w1 := Chg.of_below hb
 exact ⟨h.chg.trans (hc.mono fun _ h => h.elim), (hb.block A (lt_of_block h.cert)).trans h.cert, h.colA, h.t1.chg hc id, h.t2.chg hc id, h.t3.chg hc id, h.t4.chg hc id, h.s1, h.s2, h.s3, h.s4, h.recs.chg hc id id, h.parts.chg hc id, (hb.block B (lt_of_block h.rcd)).trans h.rcd, h.colB, (hb.block E (lt_of_block h.e)).trans h.e, h.colE⟩
theorem SumS.step1 (h : SumS κ w k A B E C N1 N2 N3 N4 old a n cap rs r κ' wx l1 l2 l3 p bad) {l' : List VI} (hc : Chg (· = k + 1) κ' κ'' wx w1) (ht : TabAt w1 κ'' (k + 1) N1 old l') (hs : SortedV l') : SumS κ w k A B E C N1 N2 N3 N4 old a n cap rs r κ'' w1 l' l2 l3 p bad :=
 ⟨h.chg.trans (hc.mono fun i hi => by omega), (hc.block A (lt_of_block h.cert) (by rw [h.colA]; omega)).trans h.cert, (hc.paint A (lt_of_block h.cert)).trans h.colA, ht, h.t2.chg hc (by omega), h.t3.chg hc (by omega), h.t4.chg hc (by omega), hs, h.s2, h.s3, h.s4, h.recs.chg hc (by omega) (by omega), h.parts.chg hc (by omega),
  (hc.block B (lt_of_block h.rcd) (by rw [h.colB]; omega)).trans h.rcd, (hc.paint B (lt_of_block h.rcd)).trans h.colB, (hc.block E (lt_of_block h.e) (by rw [h.colE]; omega)).trans h.e, (hc.paint E (lt_of_block h.e)).trans h.colE⟩
theorem SumS.step2 (h : SumS κ w k A B E C N1 N2 N3 N4 old a n cap rs r κ' wx l1 l2 l3 p bad) {l' : List VI} (hc : Chg (· = k + 2) κ' κ'' wx w1) (ht : TabAt w1 κ'' (k + 2) N2 old l') (hs : SortedV l') : SumS κ w k A B E C N1 N2 N3 N4 old a n cap rs r κ'' w1 l1 l' l3 p bad :=
 ⟨h.chg.trans (hc.mono fun i hi => by omega), (hc.block A (lt_of_block h.cert) (by rw [h.colA]; omega)).trans h.cert, (hc.paint A (lt_of_block h.cert)).trans h.colA, h.t1.chg hc (by omega), ht, h.t3.chg hc (by omega), h.t4.chg hc (by omega), h.s1, hs, h.s3, h.s4, h.recs.chg hc (by omega) (by omega), h.parts.chg hc (by omega),
  (hc.block B (lt_of_block h.rcd) (by rw [h.colB]; omega)).trans h.rcd, (hc.paint B (lt_of_block h.rcd)).trans h.colB, (hc.block E (lt_of_block h.e) (by rw [h.colE]; omega)).trans h.e, (hc.paint E (lt_of_block h.e)).trans h.colE⟩
theorem SumS.step3 (h : SumS κ w k A B E C N1 N2 N3 N4 old a n cap rs r κ' wx l1 l2 l3 p bad) {l' : List VI} (hc : Chg (· = k + 3) κ' κ'' wx w1) (ht : TabAt w1 κ'' (k + 3) N3 old l') (hs : SortedV l') : SumS κ w k A B E C N1 N2 N3 N4 old a n cap rs r κ'' w1 l1 l2 l' p bad :=
 ⟨h.chg.trans (hc.mono fun i hi => by omega), (hc.block A (lt_of_block h.cert) (by rw [h.colA]; omega)).trans h.cert, (hc.paint A (lt_of_block h.cert)).trans h.colA, h.t1.chg hc (by omega), h.t2.chg hc (by omega), ht, h.t4.chg hc (by omega), h.s1, h.s2, hs, h.s4, h.recs.chg hc (by omega) (by omega), h.parts.chg hc (by omega),
  (hc.block B (lt_of_block h.rcd) (by rw [h.colB]; omega)).trans h.rcd, (hc.paint B (lt_of_block h.rcd)).trans h.colB, (hc.block E (lt_of_block h.e) (by rw [h.colE]; omega)).trans h.e, (hc.paint E (lt_of_block h.e)).trans h.colE⟩
theorem SumS.step4 (h : SumS κ w k A B E C N1 N2 N3 N4 old a n cap rs r κ' wx l1 l2 l3 p bad) {l' : List PI} (hc : Chg (· = k + 4) κ' κ'' wx w1) (ht : PTabAt w1 κ'' (k + 4) N4 old l') (hs : SortedP l') : SumS κ w k A B E C N1 N2 N3 N4 old a n cap rs r κ'' w1 l1 l2 l3 l' bad :=
 ⟨h.chg.trans (hc.mono fun i hi => by omega), (hc.block A (lt_of_block h.cert) (by rw [h.colA]; omega)).trans h.cert, (hc.paint A (lt_of_block h.cert)).trans h.colA, h.t1.chg hc (by omega), h.t2.chg hc (by omega), h.t3.chg hc (by omega), ht, h.s1, h.s2, h.s3, hs, h.recs.chg hc (by omega) (by omega), h.parts.chg hc (by omega),
  (hc.block B (lt_of_block h.rcd) (by rw [h.colB]; omega)).trans h.rcd, (hc.paint B (lt_of_block h.rcd)).trans h.colB, (hc.block E (lt_of_block h.e) (by rw [h.colE]; omega)).trans h.e, (hc.paint E (lt_of_block h.e)).trans h.colE⟩
theorem Chg.of_grown {J : Nat → Prop} {κ : Nat → Nat} {a b : World} {g : Nat} (h : a.grownBy b (some g)) (hj : J (κ g)) : Chg J κ κ a b :=
 ⟨h.os, h.tape, h.output, h.size, fun _ _ => rfl, fun x hx hn => h.block x hx fun e => hn (by rw [Option.some.inj e]; exact hj)⟩
theorem SumS.note (h : SumS κ w k A B E C N1 N2 N3 N4 old a n cap rs r κ' wx l1 l2 l3 p bad) {bad' : Bool} (hg : wx.grownBy w1 (some E)) (he : w1.heap[E]? = some (.cells #[.int .i64 (ec bad')] 33 (0, 0))) : SumS κ w k A B E C N1 N2 N3 N4 old a n cap rs r κ' w1 l1 l2 l3 p bad' := by
 have hc : Chg (· = k + 8) κ' κ' wx w1 := Chg.of_grown hg h.colE
 exact ⟨h.chg.trans (hc.mono fun i hi => by omega), (hc.block A (lt_of_block h.cert) (by rw [h.colA]; omega)).trans h.cert, h.colA, h.t1.chg hc (by omega), h.t2.chg hc (by omega), h.t3.chg hc (by omega), h.t4.chg hc (by omega), h.s1, h.s2, h.s3, h.s4, h.recs.chg hc (by omega) (by omega), h.parts.chg hc (by omega),
  (hc.block B (lt_of_block h.rcd) (by rw [h.colB]; omega)).trans h.rcd, h.colB, he, h.colE⟩
def NotePost (w : World) (f ev : Int) (E : Nat) (e : Ending) (w' : World) : Prop :=
 e = .returned (.tuple #[]) ∧ w.grownBy w' (some E) ∧ w'.heap[E]? = some (.cells #[.int .i64 (if ev = 0 then f else ev)] 33 (0, 0))
set_option maxHeartbeats 1600000 in
theorem note_any (f ev : Int) (E : Nat) (w : World) (h : w.heap[E]? = some (.cells #[.int .i64 ev] 33 (0, 0))) :
 Calls Tryz.prog 60 #[.int .i64 f, .pointer (some ⟨E, 0, none⟩)] w (NotePost w f ev E) := by
 have h0 : w.cell? ⟨E, 0, none⟩ = some (.int .i64 ev) := by simp [World.cell?, h]
 have hf : w.frozen? ⟨E, 0, none⟩ = false := by simp [World.frozen?, h]
 have H := Lib.hid h
 clear h
 by_cases hev : ev = 0
 · subst hev
   go_enter Tryz.func60, Tryz.ntmps60
   go_wp2_with fail
   go_end0
   exact ⟨rfl, grown_set w E 0 _, by rw [if_pos rfl]; exact set_block (i := 0) H.out _⟩
 · go_enter Tryz.func60, Tryz.ntmps60
   go_wp2_with fail
   go_end0
   exact ⟨rfl, ⟨rfl, rfl, rfl, Nat.le_refl _, fun _ _ _ => rfl⟩, by rw [if_neg hev]; exact H.out⟩
end Go.Proofs.YtpknmfmpiachkaaGreat
