/- The reader's value. -/
import Derived.Test.YtdpajcamgipgkaaReadMore
import Derived.Test.YtdpajcamgipgkaaPut
import Derived.Deep.MidRow
namespace Go.Proofs.Ytdpajcamgipgkaa
open Go.RowKit

/-- a value, its bytes written out -/
structure Pv where
  kind : Int
  n : Int
  x : Nat
  bs : List UInt8
  on : Bool
def Pv.vl (p : Pv) (s : Sl) : Vl := ⟨p.kind, p.n, p.x, s, p.on⟩
def Pv.is (base : Nat) (p : Pv) (v : Value) (w : World) : Prop := ∃ s : Sl, v = .agg (p.vl s).cells.toArray ∧ Own8 w base s.a s.len s.cap p.bs
def getVal (kind : Int) (bs : List UInt8) : Option (Pv × List UInt8) :=
  if kind = 1 then (getNum bs).map fun q => (⟨kind, q.1, 0, [], false⟩, q.2)
  else if kind = 2 then (getKey bs).map fun q => (⟨kind, 0, q.1, [], false⟩, q.2)
  else if kind = 3 then (getBytes bs).map fun q => (⟨kind, 0, 0, q.1, false⟩, q.2)
  else if kind = 4 then (getFlag bs).map fun q => (⟨kind, 0, 0, [], q.1⟩, q.2)
  else some (⟨kind, 0, 0, [], false⟩, bs)

/-- the cells of a block of five -/
theorem five_cells {w : World} {B : Nat} {T : TypeId} {c0 c1 c2 c3 c4 : Value} (h : w.heap[B]? = some (.cells #[c0, c1, c2, c3, c4] T (0, 0))) :
    w.cell? ⟨B, 0, none⟩ = some c0 ∧ w.cell? ⟨B, 1, none⟩ = some c1 ∧ w.cell? ⟨B, 2, none⟩ = some c2 ∧ w.cell? ⟨B, 3, none⟩ = some c3 ∧ w.cell? ⟨B, 4, none⟩ = some c4 ∧
    w.frozen? ⟨B, 0, none⟩ = false ∧ w.frozen? ⟨B, 1, none⟩ = false ∧ w.frozen? ⟨B, 2, none⟩ = false ∧ w.frozen? ⟨B, 3, none⟩ = false ∧ w.frozen? ⟨B, 4, none⟩ = false := by
  refine ⟨?_, ?_, ?_, ?_, ?_, ?_, ?_, ?_, ?_, ?_⟩ <;> simp [World.cell?, World.frozen?, h]

theorem Touch.own {S : List Nat} {w w' : World} {base : Nat} {ao : Option Addr} {n c : Nat} {bs : List UInt8} (h : Own8 w base ao n c bs) (ht : Touch S w w') (hS : ∀ k ∈ S, k < base) : Own8 w' base ao n c bs := by
  refine ⟨h.1, ?_⟩
  rcases h.2 with hv | ⟨g, cp, cur, hv, hbg, hg, r⟩
  · exact .inl hv
  · exact .inr ⟨g, cp, cur, hv, hbg, by rw [ht.block g (Array.getElem?_eq_some_iff.1 hg).1 (fun hi => by have := hS g hi; omega)]; exact hg, r⟩
/-- Blocks that hold no bytes may turn. -/
theorem Rd.touch {S : List Nat} {w w' : World} {R : Nat} {bs : List UInt8} (h : Rd w R bs) (ht : Touch S w w') (hR : R ∉ S) (hS : ∀ k ∈ S, ∀ o n, w.cell? ⟨k, o, none⟩ ≠ some (.int .u8 n)) : Rd w' R bs := by
  obtain ⟨a, n, c, hR', hrow, h1, h2, h3⟩ := h
  refine ⟨a, n, c, (ht.block R (lt_of_block hR') hR).trans hR', ⟨hrow.1, fun i hi => ?_⟩, h1, h2, h3⟩
  obtain ⟨b, off, ha, hc⟩ := hrow.2 i hi
  have hb : b ∉ S := fun hb => hS b hb _ _ hc
  have hlt := World.block_lt_of_cell? w _ hc
  refine ⟨b, off, ha, ?_⟩
  rw [World.cell?_of_block (ht.block b hlt hb)]
  exact hc
theorem five_no {w : World} {B : Nat} {T : TypeId} {a b : Int} {x : Nat} {s : Sl} {o : Bool} (h : w.heap[B]? = some (.cells #[.int .i64 a, .int .i64 b, .float .f64 x, s.val, .bool o] T (0, 0))) : ∀ j n, w.cell? ⟨B, j, none⟩ ≠ some (.int .u8 n) := by
  intro j n
  simp only [World.cell?, h]
  match j with
  | 0 => simp
  | 1 => simp
  | 2 => simp
  | 3 => simp [Sl.val]
  | 4 => simp
  | k + 5 => simp

theorem set_block {w : World} {g i : Nat} {cs : Array Value} {t : TypeId} {fr : Nat × Nat} (h : w.heap[g]? = some (.cells cs t fr)) (v : Value) : (w.setCell ⟨g, i, none⟩ v).heap[g]? = some (.cells (cs.setIfInBounds i v) t fr) := by
  unfold World.setCell
  simp [Array.getElem?_modify, h]
/-- the result that lies in a variable -/
theorem results_cell {fn : Func} {p : Tmp} {ty : TypeId} (h : fn.results = #[.cell p ty]) {tmps : Array Value} {P : Program} {w : World} {a : Addr} {v : Value} {w' : World} (ha : tmps.getD p undef = .pointer (some a)) (hl : (loadVar ty a).run P w = .ok v w') : (results fn tmps).run P w = .ok v w' := by
  have h1 : (asAddr (tmps.getD p undef)).run P w = .ok a w := by rw [ha]; rfl
  have e : (results fn tmps).run P w = ((asAddr (tmps.getD p undef)).run P w).andThen fun a w₁ => (loadVar ty a).run P w₁ := by
    simp only [results, h]
    simp [Sem.run_bind, Result.andThen]
  rw [e, h1]
  exact hl
theorem load_five {w : World} {B : Nat} {c0 c1 c2 c3 c4 : Value} (h : w.heap[B]? = some (.cells #[c0, c1, c2, c3, c4] 63 (0, 0))) : (loadVar 63 ⟨B, 0, none⟩).run Try.prog w = .ok (.agg #[c0, c1, c2, c3, c4]) w := by
  refine run_loadVar_mid w B 0 _ [c0, c1, c2, c3, c4] _ (fun j v hv => ?_) Try.underlying63 rfl (by kernel_rfl)
  simp only [World.cell?, h, Nat.zero_add]
  rw [← hv]
  simp

theorem touch_six (w : World) (A i : Nat) (u v0 v1 v2 v3 v4 : Value) : Touch [A, A + 1] w ((((((w.setCell ⟨A + 1, i, none⟩ u).setCell ⟨A, 0, none⟩ v0).setCell ⟨A, 1, none⟩ v1).setCell ⟨A, 2, none⟩ v2).setCell ⟨A, 3, none⟩ v3).setCell ⟨A, 4, none⟩ v4) :=
  (((((Touch.set w _ _ _ (by simp)).trans (Touch.set _ _ _ _ (by simp))).trans (Touch.set _ _ _ _ (by simp))).trans (Touch.set _ _ _ _ (by simp))).trans (Touch.set _ _ _ _ (by simp))).trans (Touch.set _ _ _ _ (by simp))

def valStart (k : Int) (w : World) : World := (w.alloc (.cells #[.int .i64 0, .int .i64 0, .float .f64 0, .slice none 0 0, .bool false] 63)).alloc (.cells #[.int .i64 k, .int .i64 0, .float .f64 0, .slice none 0 0, .bool false] 63)
theorem valStart_a (k : Int) (w : World) : (valStart k w).heap[w.heap.size]? = some (.cells #[.int .i64 0, .int .i64 0, .float .f64 0, .slice none 0 0, .bool false] 63 (0, 0)) := by
  unfold valStart
  rw [heap_alloc_old _ _ (by rw [World.size_alloc]; omega)]
  exact heap_alloc_new w _
theorem valStart_b (k : Int) (w : World) : (valStart k w).heap[w.heap.size + 1]? = some (.cells #[.int .i64 k, .int .i64 0, .float .f64 0, .slice none 0 0, .bool false] 63 (0, 0)) := by
  have := heap_alloc_new (w.alloc (.cells #[.int .i64 0, .int .i64 0, .float .f64 0, .slice none 0 0, .bool false] 63)) (.cells #[.int .i64 k, .int .i64 0, .float .f64 0, .slice none 0 0, .bool false] 63)
  rw [World.size_alloc] at this
  exact this
theorem valStart_size (k : Int) (w : World) : (valStart k w).heap.size = w.heap.size + 2 := by unfold valStart; rw [World.size_alloc, World.size_alloc]
theorem valStart_below (k : Int) (w : World) : Below w.heap.size w (valStart k w) := ((Below.refl _ _).alloc (Nat.le_refl _) _).alloc (by rw [World.size_alloc]; omega) _

theorem value_end {k : Int} {w w1 w2 : World} {R : Nat} {r : List UInt8} {p : Pv} {v : Value} (hg : (valStart k w).grownBy w1 (some R)) (hRl : R < w.heap.size) (hrd : Rd w1 R r) (ht : Touch [w.heap.size, w.heap.size + 1] w1 w2) (hv : p.is w.heap.size v w2) :
    ReadPostE w R (Pv.is w.heap.size) (some (p, r)) (.returned v) w2 := by
  have hb := valStart_below k w
  have hz := valStart_size k w
  have hz1 := hg.size
  refine ReadPostE.mk_ok ⟨ht.os.trans (hg.os.trans hb.os), ht.tape.trans (hg.tape.trans hb.tape), ht.output.trans (hg.output.trans hb.output), by have := ht.size; omega, fun j hj hn => ?_⟩ rfl hv (hrd.touch ht (by simp; omega) (fun j hj => ?_))
  · rw [ht.block j (by omega) (by simp; omega), hg.block j (by omega) hn, hb.block j hj]
  · simp only [List.mem_cons, List.not_mem_nil, or_false] at hj
    rcases hj with rfl | rfl
    · exact five_no (s := ⟨none, 0, 0, []⟩) ((hg.block _ (by omega) (fun e => by injection e; omega)).trans (valStart_a k w))
    · exact five_no (s := ⟨none, 0, 0, []⟩) ((hg.block _ (by omega) (fun e => by injection e; omega)).trans (valStart_b k w))
theorem value_no {k : Int} {w w1 : World} {R : Nat} {e : Ending} (hg : (valStart k w).grownBy w1 (some R)) (he : e = Wrong 30) : ReadPostE w R (Pv.is w.heap.size) none e w1 := by
  have hb := valStart_below k w
  have hz := valStart_size k w
  refine ReadPostE.mk_no ⟨hg.os.trans hb.os, hg.tape.trans hb.tape, hg.output.trans hb.output, by have := hg.size; omega, fun j hj hn => ?_⟩ he
  rw [hg.block j (by omega) hn, hb.block j hj]

set_option maxRecDepth 100000 in
set_option maxHeartbeats 1600000 in
theorem value_1 (R : Nat) (bs : List UInt8) (w : World) (hr : Rd w R bs) :
    Calls Try.prog 62 #[.pointer (some ⟨R, 0, none⟩), .int .i64 1] w (ReadPostE w R (Pv.is w.heap.size) (getVal 1 bs)) := by
  have hstf := store_float
  have hc := fun w' (h : Rd w' R bs) => num_any R bs w' h
  have hRl : R < w.heap.size := by obtain ⟨_, _, _, h, _⟩ := hr; exact lt_of_block h
  have hrs := hr.below (valStart_below 1 w)
  have HRS := Lib.hid hrs
  clear hr hrs
  cases hg : getNum bs with
  | none =>
    have e : getVal 1 bs = none := by simp [getVal, hg]
    rw [hg] at hc
    have HC := Lib.hid hc
    have HE := Lib.hid e
    clear hc hg e
    go_enter Try.func62, Try.ntmps62
    go_wp2_with fail
    refine (HC.out (valStart 1 w) HRS.out).mono ?_
    intro e w1 hp
    obtain ⟨rfl, hgr⟩ := hp.no rfl
    simp only [Wrong]
    go_wp2
    refine ⟨rfl, ?_⟩
    rw [HE.out]
    exact value_no hgr rfl
  | some q =>
    obtain ⟨n, r⟩ := q
    have e : getVal 1 bs = some ((⟨1, n, 0, [], false⟩ : Pv), r) := by simp [getVal, hg]
    rw [hg] at hc
    have HC := Lib.hid hc
    have HE := Lib.hid e
    clear hc hg e
    go_enter Try.func62, Try.ntmps62
    go_wp2_with fail
    refine (HC.out (valStart 1 w) HRS.out).mono ?_
    intro e w1 hp
    obtain ⟨rfl, hrd, hgr⟩ := hp.ok rfl
    simp only [i64v]
    have hz := valStart_size 1 w
    have hA := (hgr.block w.heap.size (by omega) (fun e => by injection e; omega)).trans (valStart_a 1 w)
    have hB := (hgr.block (w.heap.size + 1) (by omega) (fun e => by injection e; omega)).trans (valStart_b 1 w)
    obtain ⟨a0, a1, a2, a3, a4, f0, f1, f2, f3, f4⟩ := five_cells hA
    obtain ⟨b0, b1, b2, b3, b4, g0, g1, g2, g3, g4⟩ := five_cells hB
    have HG := Lib.hid hgr
    have HA := Lib.hid hA
    clear hA hB hgr hp hz
    go_wp2_with fail
    have hF := set_block (i := 4) (set_block (i := 3) (set_block (i := 2) (set_block (i := 1) (set_block (i := 0) ((Below.heap_setCell w1 ⟨w.heap.size + 1, 1, none⟩ (.int .i64 n) w.heap.size (by simp)).trans HA.out) (.int .i64 1)) (.int .i64 n)) (.float .f64 0)) (.slice none 0 0)) (.bool false)
    refine bodyPost_ret_by (results_cell Try.results62 rfl (load_five (c0 := .int .i64 1) (c1 := .int .i64 n) (c2 := .float .f64 0) (c3 := .slice none 0 0) (c4 := .bool false) hF)) rfl ?_
    rw [HE.out]
    exact value_end HG.out hRl hrd (touch_six _ _ _ _ _ _ _ _ _) ⟨⟨none, 0, 0, []⟩, rfl, Own8.nil _ _⟩

set_option maxRecDepth 100000 in
set_option maxHeartbeats 1600000 in
theorem value_2 (R : Nat) (bs : List UInt8) (w : World) (hr : Rd w R bs) :
    Calls Try.prog 62 #[.pointer (some ⟨R, 0, none⟩), .int .i64 2] w (ReadPostE w R (Pv.is w.heap.size) (getVal 2 bs)) := by
  have hstf := store_float
  have hc := fun w' (h : Rd w' R bs) => key_any R bs w' h
  have hRl : R < w.heap.size := by obtain ⟨_, _, _, h, _⟩ := hr; exact lt_of_block h
  have hrs := hr.below (valStart_below 2 w)
  have HRS := Lib.hid hrs
  clear hr hrs
  cases hg : getKey bs with
  | none =>
    have e : getVal 2 bs = none := by simp [getVal, hg]
    rw [hg] at hc
    have HC := Lib.hid hc
    have HE := Lib.hid e
    clear hc hg e
    go_enter Try.func62, Try.ntmps62
    go_wp2_with fail
    refine (HC.out (valStart 2 w) HRS.out).mono ?_
    intro e w1 hp
    obtain ⟨rfl, hgr⟩ := hp.no rfl
    simp only [Wrong]
    go_wp2
    refine ⟨rfl, ?_⟩
    rw [HE.out]
    exact value_no hgr rfl
  | some q =>
    obtain ⟨n, r⟩ := q
    have e : getVal 2 bs = some ((⟨2, 0, n, [], false⟩ : Pv), r) := by simp [getVal, hg]
    rw [hg] at hc
    have HC := Lib.hid hc
    have HE := Lib.hid e
    clear hc hg e
    go_enter Try.func62, Try.ntmps62
    go_wp2_with fail
    refine (HC.out (valStart 2 w) HRS.out).mono ?_
    intro e w1 hp
    obtain ⟨rfl, hrd, hgr⟩ := hp.ok rfl
    simp only [f64v]
    have hz := valStart_size 2 w
    have hA := (hgr.block w.heap.size (by omega) (fun e => by injection e; omega)).trans (valStart_a 2 w)
    have hB := (hgr.block (w.heap.size + 1) (by omega) (fun e => by injection e; omega)).trans (valStart_b 2 w)
    obtain ⟨a0, a1, a2, a3, a4, f0, f1, f2, f3, f4⟩ := five_cells hA
    obtain ⟨b0, b1, b2, b3, b4, g0, g1, g2, g3, g4⟩ := five_cells hB
    have HG := Lib.hid hgr
    have HA := Lib.hid hA
    clear hA hB hgr hp hz
    go_wp2_with fail
    have hF := set_block (i := 4) (set_block (i := 3) (set_block (i := 2) (set_block (i := 1) (set_block (i := 0) ((Below.heap_setCell w1 ⟨w.heap.size + 1, 2, none⟩ (.float .f64 n) w.heap.size (by simp)).trans HA.out) (.int .i64 2)) (.int .i64 0)) (.float .f64 n)) (.slice none 0 0)) (.bool false)
    refine bodyPost_ret_by (results_cell Try.results62 rfl (load_five (c0 := .int .i64 2) (c1 := .int .i64 0) (c2 := .float .f64 n) (c3 := .slice none 0 0) (c4 := .bool false) hF)) rfl ?_
    rw [HE.out]
    exact value_end HG.out hRl hrd (touch_six _ _ _ _ _ _ _ _ _) ⟨⟨none, 0, 0, []⟩, rfl, Own8.nil _ _⟩

set_option maxRecDepth 100000 in
set_option maxHeartbeats 1600000 in
theorem value_3 (R : Nat) (bs : List UInt8) (w : World) (hr : Rd w R bs) :
    Calls Try.prog 62 #[.pointer (some ⟨R, 0, none⟩), .int .i64 3] w (ReadPostE w R (Pv.is w.heap.size) (getVal 3 bs)) := by
  have hstf := store_float
  have hc := fun w' (h : Rd w' R bs) => bytes_any R bs w' h
  have hRl : R < w.heap.size := by obtain ⟨_, _, _, h, _⟩ := hr; exact lt_of_block h
  have hrs := hr.below (valStart_below 3 w)
  have HRS := Lib.hid hrs
  clear hr hrs
  cases hg : getBytes bs with
  | none =>
    have e : getVal 3 bs = none := by simp [getVal, hg]
    rw [hg] at hc
    have HC := Lib.hid hc
    have HE := Lib.hid e
    clear hc hg e
    go_enter Try.func62, Try.ntmps62
    go_wp2_with fail
    refine (HC.out (valStart 3 w) HRS.out).mono ?_
    intro e w1 hp
    obtain ⟨rfl, hgr⟩ := hp.no rfl
    simp only [Wrong]
    go_wp2
    refine ⟨rfl, ?_⟩
    rw [HE.out]
    exact value_no hgr rfl
  | some q =>
    obtain ⟨ys, r⟩ := q
    have e : getVal 3 bs = some ((⟨3, 0, 0, ys, false⟩ : Pv), r) := by simp [getVal, hg]
    rw [hg] at hc
    have HC := Lib.hid hc
    have HE := Lib.hid e
    clear hc hg e
    go_enter Try.func62, Try.ntmps62
    go_wp2_with fail
    refine (HC.out (valStart 3 w) HRS.out).mono ?_
    intro e w1 hp
    obtain ⟨v, rfl, ⟨ao, n, c, rfl, hown⟩, hrd, hgr⟩ := hp.ok rfl
    have hz := valStart_size 3 w
    rw [hz] at hown
    have hA := (hgr.block w.heap.size (by omega) (fun e => by injection e; omega)).trans (valStart_a 3 w)
    have hB := (hgr.block (w.heap.size + 1) (by omega) (fun e => by injection e; omega)).trans (valStart_b 3 w)
    obtain ⟨a0, a1, a2, a3, a4, f0, f1, f2, f3, f4⟩ := five_cells hA
    obtain ⟨b0, b1, b2, b3, b4, g0, g1, g2, g3, g4⟩ := five_cells hB
    have HG := Lib.hid hgr
    have HA := Lib.hid hA
    have HO := Lib.hid hown
    clear hA hB hgr hp hz hown
    go_wp2_with fail
    have hF := set_block (i := 4) (set_block (i := 3) (set_block (i := 2) (set_block (i := 1) (set_block (i := 0) ((Below.heap_setCell w1 ⟨w.heap.size + 1, 3, none⟩ (.slice ao n c) w.heap.size (by simp)).trans HA.out) (.int .i64 3)) (.int .i64 0)) (.float .f64 0)) (.slice ao n c)) (.bool false)
    refine bodyPost_ret_by (results_cell Try.results62 rfl (load_five (c0 := .int .i64 3) (c1 := .int .i64 0) (c2 := .float .f64 0) (c3 := .slice ao n c) (c4 := .bool false) hF)) rfl ?_
    rw [HE.out]
    exact value_end HG.out hRl hrd (touch_six _ _ _ _ _ _ _ _ _) ⟨⟨ao, n, c, ys⟩, rfl, (Touch.own HO.out (touch_six _ _ _ _ _ _ _ _ _) (fun k hk => by simp at hk; omega)).more (by omega)⟩

set_option maxRecDepth 100000 in
set_option maxHeartbeats 1600000 in
theorem value_4 (R : Nat) (bs : List UInt8) (w : World) (hr : Rd w R bs) :
    Calls Try.prog 62 #[.pointer (some ⟨R, 0, none⟩), .int .i64 4] w (ReadPostE w R (Pv.is w.heap.size) (getVal 4 bs)) := by
  have hstf := store_float
  have hc := fun w' (h : Rd w' R bs) => flag_any R bs w' h
  have hRl : R < w.heap.size := by obtain ⟨_, _, _, h, _⟩ := hr; exact lt_of_block h
  have hrs := hr.below (valStart_below 4 w)
  have HRS := Lib.hid hrs
  clear hr hrs
  cases hg : getFlag bs with
  | none =>
    have e : getVal 4 bs = none := by simp [getVal, hg]
    rw [hg] at hc
    have HC := Lib.hid hc
    have HE := Lib.hid e
    clear hc hg e
    go_enter Try.func62, Try.ntmps62
    go_wp2_with fail
    refine (HC.out (valStart 4 w) HRS.out).mono ?_
    intro e w1 hp
    obtain ⟨rfl, hgr⟩ := hp.no rfl
    simp only [Wrong]
    go_wp2
    refine ⟨rfl, ?_⟩
    rw [HE.out]
    exact value_no hgr rfl
  | some q =>
    obtain ⟨n, r⟩ := q
    have e : getVal 4 bs = some ((⟨4, 0, 0, [], n⟩ : Pv), r) := by simp [getVal, hg]
    rw [hg] at hc
    have HC := Lib.hid hc
    have HE := Lib.hid e
    clear hc hg e
    go_enter Try.func62, Try.ntmps62
    go_wp2_with fail
    refine (HC.out (valStart 4 w) HRS.out).mono ?_
    intro e w1 hp
    obtain ⟨rfl, hrd, hgr⟩ := hp.ok rfl
    simp only [boolv]
    have hz := valStart_size 4 w
    have hA := (hgr.block w.heap.size (by omega) (fun e => by injection e; omega)).trans (valStart_a 4 w)
    have hB := (hgr.block (w.heap.size + 1) (by omega) (fun e => by injection e; omega)).trans (valStart_b 4 w)
    obtain ⟨a0, a1, a2, a3, a4, f0, f1, f2, f3, f4⟩ := five_cells hA
    obtain ⟨b0, b1, b2, b3, b4, g0, g1, g2, g3, g4⟩ := five_cells hB
    have HG := Lib.hid hgr
    have HA := Lib.hid hA
    clear hA hB hgr hp hz
    go_wp2_with fail
    have hF := set_block (i := 4) (set_block (i := 3) (set_block (i := 2) (set_block (i := 1) (set_block (i := 0) ((Below.heap_setCell w1 ⟨w.heap.size + 1, 4, none⟩ (.bool n) w.heap.size (by simp)).trans HA.out) (.int .i64 4)) (.int .i64 0)) (.float .f64 0)) (.slice none 0 0)) (.bool n)
    refine bodyPost_ret_by (results_cell Try.results62 rfl (load_five (c0 := .int .i64 4) (c1 := .int .i64 0) (c2 := .float .f64 0) (c3 := .slice none 0 0) (c4 := .bool n) hF)) rfl ?_
    rw [HE.out]
    exact value_end HG.out hRl hrd (touch_six _ _ _ _ _ _ _ _ _) ⟨⟨none, 0, 0, []⟩, rfl, Own8.nil _ _⟩

theorem value_any (R : Nat) (kind : Int) (bs : List UInt8) (w : World) (hr : Rd w R bs) (h1 : 1 ≤ kind) (h4 : kind ≤ 4) :
    Calls Try.prog 62 #[.pointer (some ⟨R, 0, none⟩), .int .i64 kind] w (ReadPostE w R (Pv.is w.heap.size) (getVal kind bs)) := by
  have : kind = 1 ∨ kind = 2 ∨ kind = 3 ∨ kind = 4 := by omega
  rcases this with rfl | rfl | rfl | rfl
  · exact value_1 R bs w hr
  · exact value_2 R bs w hr
  · exact value_3 R bs w hr
  · exact value_4 R bs w hr

end Go.Proofs.Ytdpajcamgipgkaa
