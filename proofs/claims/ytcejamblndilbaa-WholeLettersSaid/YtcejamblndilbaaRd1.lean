/- msg.read. -/
import Derived.Test.YtcejamblndilbaaOf2
import Derived.Deep.CutRange
import Derived.Deep.CutBlock
import Derived.Deep.RegionHeld3
namespace Go.Proofs.Ytcejamblndilbaa
open Go.RowKit

def zeroM : Ms := ⟨0, 0, 0, 0, 0, 0, 0, false, none, 0, 0, [], 0, ⟨none, 0, 0, []⟩, false, ⟨⟨none, 0, 0, []⟩, ⟨none, 0, 0, []⟩⟩⟩
def headM (k f t n : Int) : Ms := ⟨k, f, t, n, 0, 0, 0, false, none, 0, 0, [], 0, ⟨none, 0, 0, []⟩, false, ⟨⟨none, 0, 0, []⟩, ⟨none, 0, 0, []⟩⟩⟩
theorem zeroM_own (w : World) (B : Nat) : MOwn w B zeroM := ⟨World.ownsRow_nil _ _ _ _, rfl, fun e he => (by cases he), Own8.nil _ _, World.ownsRow_nil _ _ _ _, World.ownsRow_nil _ _ _ _⟩
theorem headM_own (w : World) (B : Nat) (k f t n : Int) : MOwn w B (headM k f t n) := ⟨World.ownsRow_nil _ _ _ _, rfl, fun e he => (by cases he), Own8.nil _ _, World.ownsRow_nil _ _ _ _, World.ownsRow_nil _ _ _ _⟩
def Ms.setN (m : Ms) : Nat → Int → Ms
  | 0, n => { m with index := n }
  | 1, n => { m with logTerm := n }
  | _, n => { m with commit := n }
theorem setN_cs (m : Ms) (k : Nat) (n : Int) (hk : k < 3) : m.cs.setIfInBounds (4 + k) (.int .i64 n) = (m.setN k n).cs := by
  match k, hk with
  | 0, _ => rfl
  | 1, _ => rfl
  | 2, _ => rfl
theorem setN_plain (m : Ms) (k : Nat) (n : Int) (hk : k < 3) : (m.setN k n).plain = m.plain.setN k n := by
  match k, hk with
  | 0, _ => rfl
  | 1, _ => rfl
  | 2, _ => rfl
theorem setN_es (m : Ms) (k : Nat) (n : Int) (hk : k < 3) : (m.setN k n).es = m.es ∧ (m.setN k n).kind = m.kind := by
  match k, hk with
  | 0, _ => exact ⟨rfl, rfl⟩
  | 1, _ => exact ⟨rfl, rfl⟩
  | 2, _ => exact ⟨rfl, rfl⟩
theorem MOwn.setN {w : World} {B : Nat} {m : Ms} (h : MOwn w B m) (k : Nat) (n : Int) (hk : k < 3) : MOwn w B (m.setN k n) := by
  match k, hk with
  | 0, _ => exact ⟨h.row, h.len, h.ents, h.data, h.cv, h.cl⟩
  | 1, _ => exact ⟨h.row, h.len, h.ents, h.data, h.cv, h.cl⟩
  | 2, _ => exact ⟨h.row, h.len, h.ents, h.data, h.cv, h.cl⟩
theorem num_cell {w : World} {M : Nat} {m : Ms} (h : w.heap[M]? = some (.cells m.cs 28 (0, 0))) (k : Nat) (hk : k < 3) : ∃ v, w.cell? ⟨M, 4 + k, none⟩ = some v := by
  obtain ⟨_, _, _, _, b4, b5, b6, _⟩ := ms_cells h
  match k, hk with
  | 0, _ => exact ⟨_, b4⟩
  | 1, _ => exact ⟨_, b5⟩
  | 2, _ => exact ⟨_, b6⟩
theorem stNum_at (x : Pm) (r : List UInt8) (k : Nat) (hk : k < 3) : stNum (3 - k) x r = if nameN x.p k then (match getNum r with
    | none => none
    | some (n, r) => stNum (3 - (k + 1)) (x.setN k n) r) else stNum (3 - (k + 1)) x r := by
  match k, hk with
  | 0, _ => rfl
  | 1, _ => rfl
  | 2, _ => rfl
/-- the table of read -/
def rowsT (p : Pt) (M : Nat) : Array Value := #[.bool p.index, .pointer (some ⟨M, 4, none⟩), .bool p.logTerm, .pointer (some ⟨M, 5, none⟩), .bool p.commit, .pointer (some ⟨M, 6, none⟩)]
theorem rowsT_at {w : World} {p : Pt} {M T : Nat} {t : TypeId} (h : w.heap[T]? = some (.cells (rowsT p M) t (0, 0))) (k : Nat) (hk : k < 3) : w.cell? ⟨T, k * 2, none⟩ = some (.bool (nameN p k)) ∧ w.cell? ⟨T, k * 2 + 1, none⟩ = some (.pointer (some ⟨M, 4 + k, none⟩)) := by
  unfold rowsT at h
  match k, hk with
  | 0, _ => simp [World.cell?, h, nameN]
  | 1, _ => simp [World.cell?, h, nameN]
  | 2, _ => simp [World.cell?, h, nameN]
theorem pair_cells {w : World} {B : Nat} {t : TypeId} {c0 c1 : Value} (h : w.heap[B]? = some (.cells #[c0, c1] t (0, 0))) : w.cell? ⟨B, 0, none⟩ = some c0 ∧ w.cell? ⟨B, 1, none⟩ = some c1 := by
  simp [World.cell?, h]
theorem own_ne_row {w : World} {B1 B2 : Nat} {e1 e2 : TypeId} {s1 s2 n1 n2 : Nat} {v1 v2 : Value} {x1 x2 : List Value} (h1 : w.ownsRow B1 e1 s1 v1 n1 x1) (h2 : w.ownsRow B2 e2 s2 v2 n2 x2) (hne : e1 ≠ e2) {g : Nat} (hg : v1.ownBlock = some g) : v2.ownBlock ≠ some g := by
  intro hg2
  rcases h1.2 with ⟨hv, _⟩ | ⟨g1, c1, cur1, hv1, _, hh1, _⟩
  · rw [hv] at hg; cases hg
  rcases h2.2 with ⟨hv, _⟩ | ⟨g2, c2, cur2, hv2, _, hh2, _⟩
  · rw [hv] at hg2; cases hg2
  have a1 : g1 = g := by rw [hv1] at hg; injection hg
  have a2 : g2 = g := by rw [hv2] at hg2; injection hg2
  rw [a1] at hh1
  rw [a2, hh1] at hh2
  injection hh2 with hh2
  injection hh2 with _ hh3
  exact hne hh3
/-- what lies in no row of entries stands when one grows -/
theorem own_grown {w w' : World} {B1 B2 : Nat} {e1 e2 : TypeId} {s1 s2 n1 n2 : Nat} {v1 v2 : Value} {x1 x2 : List Value} (h1 : w.ownsRow B1 e1 s1 v1 n1 x1) (h2 : w.ownsRow B2 e2 s2 v2 n2 x2) (hne : e1 ≠ e2) (hg : w.grownBy w' v2.ownBlock) : w'.ownsRow B1 e1 s1 v1 n1 x1 :=
  own_keep h1 fun g hb hl => hg.block g hl (fun e => own_ne_row h1 h2 hne hb e.symm)
theorem RdI.later {w0 w w' : World} {R M : Nat} {r r' : List UInt8} {m : Ms} (h : RdI w0 R M r w m) (hRM : R < M) (ht : Touch [R] w w') (hr : Rd w' R r') : RdI w0 R M r' w' m :=
  ⟨hr, (ht.block M h.lt (by simp; omega)).trans h.cell, h.own.keep fun g hb hl => ht.block g hl (by simp; omega), h.touch.trans ht⟩
def set4 (w : World) (E : Nat) (v0 v1 v2 v3 : Value) : World := (((w.setCell ⟨E, 0, none⟩ v0).setCell ⟨E, 1, none⟩ v1).setCell ⟨E, 2, none⟩ v2).setCell ⟨E, 3, none⟩ v3
theorem set4_block (w : World) {E g : Nat} (h : g ≠ E) (v0 v1 v2 v3 : Value) : (set4 w E v0 v1 v2 v3).heap[g]? = w.heap[g]? := by
  have h' : ∀ i : Nat, g ≠ (⟨E, i, none⟩ : Addr).block := fun _ => h
  unfold set4
  rw [Below.heap_setCell _ _ _ g (h' 3), Below.heap_setCell _ _ _ g (h' 2), Below.heap_setCell _ _ _ g (h' 1), Below.heap_setCell _ _ _ g (h' 0)]
theorem set4_touch (w : World) (E : Nat) (v0 v1 v2 v3 : Value) : Touch [E] w (set4 w E v0 v1 v2 v3) :=
  touch_set (touch_set (touch_set (touch_set (Touch.refl _ _) _ _ _ (by simp)) _ _ _ (by simp)) _ _ _ (by simp)) _ _ _ (by simp)
theorem set4_own {w : World} {E : Nat} {c0 c1 c2 c3 : Value} {t : TypeId} (h : w.heap[E]? = some (.cells #[c0, c1, c2, c3] t (0, 0))) (v0 v1 v2 v3 : Value) : (set4 w E v0 v1 v2 v3).heap[E]? = some (.cells #[v0, v1, v2, v3] t (0, 0)) :=
  set_block (i := 3) (set_block (i := 2) (set_block (i := 1) (set_block (i := 0) h v0) v1) v2) v3
theorem set4_cell {w : World} {E M : Nat} {i : Nat} {v : Value} (h : M ≠ E) (hc : w.cell? ⟨M, i, none⟩ = some v) (v0 v1 v2 v3 : Value) : (set4 w E v0 v1 v2 v3).cell? ⟨M, i, none⟩ = some v :=
  by
  have e := set4_block w h v0 v1 v2 v3
  generalize set4 w E v0 v1 v2 v3 = z at e ⊢
  rw [World.cell?_of_block e]
  exact hc
theorem Touch.fresh {S : List Nat} {a b c : World} {E : Nat} (h : Touch S a b) (ht : Touch [E] b c) (hE : a.heap.size ≤ E) : Touch S a c :=
  ⟨ht.os.trans h.os, ht.tape.trans h.tape, ht.output.trans h.output, Nat.le_trans h.size ht.size, fun k hk hn => (ht.block k (Nat.lt_of_lt_of_le hk h.size) (by simp; omega)).trans (h.block k hk hn)⟩
theorem wrap_eq (n : Int) : IntKind.i64.wrap n = wrap64 n := by rw [IntKind.wrap_i64, wrap64]
/-- an entry more -/
def Ms.more (m : Ms) (ea : Option Addr) (ecap : Nat) (e : En) : Ms := { m with ea := ea, en := m.en + 1, ecap := ecap, es := m.es ++ [e] }
theorem more_plain (m : Ms) (ea : Option Addr) (ecap : Nat) (e : En) : (m.more ea ecap e).plain = { m.plain with es := m.plain.es ++ [e.plain] } := by
  simp [Ms.more, Ms.plain]
theorem own_ne_cells {w : World} {B E : Nat} {e e' : TypeId} {s n : Nat} {v : Value} {xs : List Value} {cs : Array Value} {fr : Nat × Nat} (h : w.ownsRow B e s v n xs) (hE : w.heap[E]? = some (.cells cs e' fr)) (hne : e ≠ e') : v.ownBlock ≠ some E := by
  intro hg
  rcases h.2 with ⟨hv, _⟩ | ⟨g1, c1, cur1, hv1, _, hh1, _⟩
  · rw [hv] at hg; cases hg
  have a1 : g1 = E := by rw [hv1] at hg; injection hg
  rw [a1, hE] at hh1
  injection hh1 with hh1
  injection hh1 with _ hh3
  exact hne hh3.symm
theorem own_setE {w w' : World} {B E : Nat} {e : TypeId} {s n : Nat} {v : Value} {xs : List Value} (h : w.ownsRow B e s v n xs) (hne : v.ownBlock ≠ some E) (ht : Touch [E] w w') : w'.ownsRow B e s v n xs :=
  own_keep h fun g hg hl => ht.block g hl (fun hm => hne (by simp at hm; rw [hg, hm]))
theorem RdI.setE {w0 w w' : World} {R M E : Nat} {r : List UInt8} {m : Ms} {cs : Array Value} {fr : Nat × Nat} (h : RdI w0 R M r w m) (hRM : R < M) (hM : w0.heap.size ≤ M) (hME : M < E) (hE : w.heap[E]? = some (.cells cs 41 fr))
    (hne : Value.ownBlock (.slice m.ea m.en m.ecap) ≠ some E) (ht : Touch [E] w w') : RdI w0 R M r w' m :=
  ⟨h.rd.high fun k hk hl => ht.block k hl (by simp; omega), (ht.block M h.lt (by simp; omega)).trans h.cell,
   ⟨own_setE h.own.row hne ht, h.own.len, fun e he => own_setE (h.own.ents e he) (own_ne_cells (h.own.ents e he) hE (by decide)) ht, own_setE h.own.data (own_ne_cells h.own.data hE (by decide)) ht,
    own_setE h.own.cv (own_ne_cells h.own.cv hE (by decide)) ht, own_setE h.own.cl (own_ne_cells h.own.cl hE (by decide)) ht⟩, h.touch.fresh ht (by omega)⟩
theorem RdI.grow {w0 w w6 : World} {R M : Nat} {r : List UInt8} {m : Ms} {o : Obj} {ao : Option Addr} {cap : Nat} {e : En} (h : RdI w0 R M r w m) (hRM : R < M) (hM : w0.heap.size ≤ M) (hg : (w.alloc o).grownBy w6 (Value.ownBlock (.slice m.ea m.en m.ecap)))
    (ho : w6.ownsRow (M + 1) 41 4 (.slice ao (m.en + 1) cap) (m.en + 1) (m.es.flatMap En.cells ++ e.cells)) (he : Own8 w (M + 1) e.s.a e.s.len e.s.cap e.s.bs) :
    RdI w0 R M r (w6.setCell ⟨M, 8, none⟩ (.slice ao (m.en + 1) cap)) (m.more ao cap e) ∧ ∀ g, g < w.heap.size → g ≠ M → Value.ownBlock (.slice m.ea m.en m.ecap) ≠ some g → (w6.setCell ⟨M, 8, none⟩ (.slice ao (m.en + 1) cap)).heap[g]? = w.heap[g]? := by
  have hrow : ∀ g, Value.ownBlock (.slice m.ea m.en m.ecap) = some g → M < g ∧ g < w.heap.size := fun g hg => by have := h.own.row.lt g hg; omega
  have hlt := h.lt
  have hk6 : ∀ g, g < w.heap.size → Value.ownBlock (.slice m.ea m.en m.ecap) ≠ some g → w6.heap[g]? = w.heap[g]? := fun g hl hn => (hg.block g (by rw [World.size_alloc]; omega) (fun e => hn e.symm)).trans (heap_alloc_old w o hl)
  have ht : Touch [M] w6 (w6.setCell ⟨M, 8, none⟩ (.slice ao (m.en + 1) cap)) := Touch.set w6 M 8 _ (by simp)
  have hs6 : w.heap.size ≤ w6.heap.size := by have := hg.size; rw [World.size_alloc] at this; omega
  have hkk : ∀ g, g < w.heap.size → g ≠ M → Value.ownBlock (.slice m.ea m.en m.ecap) ≠ some g → (w6.setCell ⟨M, 8, none⟩ (.slice ao (m.en + 1) cap)).heap[g]? = w.heap[g]? := fun g hl hn h3 => (ht.block g (by omega) (by simpa using hn)).trans (hk6 g hl h3)
  have hM6 := (hk6 M hlt (fun e => by have := (hrow M e).1; omega)).trans h.cell
  refine ⟨⟨h.rd.high fun k hk hl => hkk k hl (by omega) (fun e => by have := (hrow k e).1; omega), ?_, ⟨?_, ?_, ?_, ?_, ?_, ?_⟩, ?_⟩, hkk⟩
  · exact set_block (i := 8) hM6 _
  · show World.ownsRow _ (M + 1) 41 4 (.slice ao (m.en + 1) cap) (m.en + 1) ((m.es ++ [e]).flatMap En.cells)
    rw [List.flatMap_append]
    have := own_keep ho (fun g hgg hl => ht.block g hl (by have := (ho.lt g hgg).1; simp; omega))
    simpa using this
  · show (m.es ++ [e]).length = m.en + 1
    rw [List.length_append, h.own.len]; rfl
  · intro x hx
    rcases List.mem_append.1 hx with hx | hx
    · exact own_keep (h.own.ents x hx) fun g hgg hl => hkk g hl (by have := ((h.own.ents x hx).block g hgg).1; omega) (own_ne_row (h.own.ents x hx) h.own.row (by decide) hgg)
    · have hxe : x = e := by simpa using hx
      subst hxe
      exact own_keep he fun g hgg hl => hkk g hl (by have := (he.block g hgg).1; omega) (own_ne_row he h.own.row (by decide) hgg)
  · exact own_keep h.own.data fun g hgg hl => hkk g hl (by have := (h.own.data.block g hgg).1; omega) (own_ne_row h.own.data h.own.row (by decide) hgg)
  · exact own_keep h.own.cv fun g hgg hl => hkk g hl (by have := (h.own.cv.lt g hgg).1; omega) (own_ne_row h.own.cv h.own.row (by decide) hgg)
  · exact own_keep h.own.cl fun g hgg hl => hkk g hl (by have := (h.own.cl.lt g hgg).1; omega) (own_ne_row h.own.cl h.own.row (by decide) hgg)
  · exact ⟨(ht.os.trans hg.os).trans h.touch.os, (ht.tape.trans hg.tape).trans h.touch.tape, (ht.output.trans hg.output).trans h.touch.output, by have := h.touch.size; have := ht.size; omega,
      fun k hk hn => (hkk k (by have := h.touch.size; omega) (by omega) (fun e => by have := (hrow k e).1; omega)).trans (h.touch.block k hk hn)⟩
theorem RdI.reset {w0 w : World} {R M : Nat} {r : List UInt8} {m : Ms} (h : RdI w0 R M r w m) (hRM : R < M) (hM : w0.heap.size ≤ M) (i : Nat) (v : Value) (hcs : m.cs.setIfInBounds i v = m.cs) : RdI w0 R M r (w.setCell ⟨M, i, none⟩ v) m := h.set hRM hM hcs h.own
theorem load_msg {w : World} {B : Nat} {m : Ms} (h : w.heap[B]? = some (.cells m.cs 28 (0, 0))) : (loadVar 28 ⟨B, 0, none⟩).run Try.prog w = .ok (.agg m.cs) w := by
  unfold Ms.cs at h ⊢
  refine run_loadVar_mid w B 0 _ [.int .i64 m.kind, .int .i64 m.fr, .int .i64 m.to, .int .i64 m.term, .int .i64 m.index, .int .i64 m.logTerm, .int .i64 m.commit, .bool m.ok, .slice m.ea m.en m.ecap, .int .i64 m.off, .slice m.d.a m.d.len m.d.cap, .bool m.last, .slice m.c.v.a m.c.v.len m.c.v.cap, .slice m.c.l.a m.c.l.len m.c.l.cap] _ (fun j v hv => ?_) Try.underlying28 rfl (by kernel_rfl)
  simp only [World.cell?, h, Nat.zero_add]
  rw [← hv]
  simp
theorem Rd.lt {w : World} {R : Nat} {bs : List UInt8} (h : Rd w R bs) : R < w.heap.size := by
  obtain ⟨a, n, c, hR, _⟩ := h
  exact lt_of_block hR

set_option maxRecDepth 100000 in
set_option maxHeartbeats 16000000 in
theorem mread_any (R : Nat) (bs : List UInt8) (w : World) (hr : Rd w R bs) :
    Calls Try.prog 46 #[.pointer (some ⟨R, 0, none⟩)] w (ReadM w R (readP bs)) := by
  obtain ⟨RES, hRES⟩ : ∃ RES, RES = readP bs := ⟨_, rfl⟩
  rw [← hRES]
  obtain ⟨post, hpost⟩ : ∃ post, post = ReadM w R RES := ⟨_, rfl⟩
  rw [← hpost]
  have HNO : Hid (∀ w', RES = none → Touch [R] w w' → post (Wrong 30) w') := fun w' h ht => by rw [hpost]; exact ReadM.mk_no ht h rfl
  have HPOST := Lib.hid hpost
  have HRES := Lib.hid hRES
  have hRM : R < w.heap.size := hr.lt
  obtain ⟨M, hM⟩ : ∃ M, M = w.heap.size := ⟨_, rfl⟩
  obtain ⟨x0, hx0⟩ : ∃ X, X = w.alloc (.cells zeroM.cs 28) := ⟨_, rfl⟩
  have hI : RdI w R M bs x0 zeroM := ⟨hx0 ▸ hr.below (below_alloc (Below.refl _ _) _), by rw [hx0, hM]; exact heap_alloc_new w _, zeroM_own _ _, hx0 ▸ Touch.alloc _ _ _⟩
  rw [← hM] at hRM
  have HI0 := Lib.hid hI
  have HX0 := Lib.hid hx0
  have HM := Lib.hid hM
  have HRM := Lib.hid hRM
  clear hr hRES hpost hM hx0 hI hRM
  unfold zeroM Ms.cs at HX0
  simp only at HX0
  go_enter Try.func46, Try.ntmps46

  have hc := count_any R 8 bs x0 HI0.out.rd
  cases hg : getCount 8 bs with
  | none =>
    rw [hg] at hc
    have hno : RES = none := by rw [HRES.out]; simp only [readP, hg]
    have HC := Lib.hid hc
    clear hc hg
    go_wp2_with fail
    rw [← HX0.out]
    refine HC.out.mono ?_
    intro e w' hp
    obtain ⟨rfl, hgr⟩ := hp.no rfl
    simp only [Wrong]
    go_wp2
    exact ⟨rfl, HNO.out _ hno (HI0.out.touch.trans (Touch.of_grown hgr (by simp)))⟩
  | some pr =>
    obtain ⟨kind, r1⟩ := pr
    rw [hg] at hc
    have HC := Lib.hid hc
    have HQ1 := Lib.hid hg
    clear hc hg
    go_wp2_with fail
    rw [← HX0.out]
    refine HC.out.mono ?_
    intro e x1 hp
    obtain ⟨rfl, hrd, hgr⟩ := hp.ok rfl
    have HI1 := Lib.hid (HI0.out.step HRM.out hgr hrd)
    simp only [i64v]
    clear hp hrd hgr HC HI0
    have hc := count_any R 7 r1 x1 HI1.out.rd
    cases hg : getCount 7 r1 with
    | none =>
      rw [hg] at hc
      have hno : RES = none := by rw [HRES.out]; simp only [readP, HQ1.out, hg]
      have HC := Lib.hid hc
      clear hc hg
      go_wp2_with fail
      refine HC.out.mono ?_
      intro e w' hp
      obtain ⟨rfl, hgr⟩ := hp.no rfl
      simp only [Wrong]
      go_wp2
      exact ⟨rfl, HNO.out _ hno (HI1.out.touch.trans (Touch.of_grown hgr (by simp)))⟩
    | some pr =>
      obtain ⟨fr, r2⟩ := pr
      rw [hg] at hc
      have HC := Lib.hid hc
      have HQ2 := Lib.hid hg
      clear hc hg
      go_wp2_with fail
      refine HC.out.mono ?_
      intro e x2 hp
      obtain ⟨rfl, hrd, hgr⟩ := hp.ok rfl
      have HI2 := Lib.hid (HI1.out.step HRM.out hgr hrd)
      simp only [i64v]
      clear hp hrd hgr HC HI1
      have hc := count_any R 7 r2 x2 HI2.out.rd
      cases hg : getCount 7 r2 with
      | none =>
        rw [hg] at hc
        have hno : RES = none := by rw [HRES.out]; simp only [readP, HQ1.out, HQ2.out, hg]
        have HC := Lib.hid hc
        clear hc hg
        go_wp2_with fail
        refine HC.out.mono ?_
        intro e w' hp
        obtain ⟨rfl, hgr⟩ := hp.no rfl
        simp only [Wrong]
        go_wp2
        exact ⟨rfl, HNO.out _ hno (HI2.out.touch.trans (Touch.of_grown hgr (by simp)))⟩
      | some pr =>
        obtain ⟨dst, r3⟩ := pr
        rw [hg] at hc
        have HC := Lib.hid hc
        have HQ3 := Lib.hid hg
        clear hc hg
        go_wp2_with fail
        refine HC.out.mono ?_
        intro e x3 hp
        obtain ⟨rfl, hrd, hgr⟩ := hp.ok rfl
        have HI3 := Lib.hid (HI2.out.step HRM.out hgr hrd)
        simp only [i64v]
        clear hp hrd hgr HC HI2
        have hc := num_any R r3 x3 HI3.out.rd
        cases hg : getNum r3 with
        | none =>
          rw [hg] at hc
          have hno : RES = none := by rw [HRES.out]; simp only [readP, HQ1.out, HQ2.out, HQ3.out, hg]
          have HC := Lib.hid hc
          clear hc hg
          go_wp2_with fail
          refine HC.out.mono ?_
          intro e w' hp
          obtain ⟨rfl, hgr⟩ := hp.no rfl
          simp only [Wrong]
          go_wp2
          exact ⟨rfl, HNO.out _ hno (HI3.out.touch.trans (Touch.of_grown hgr (by simp)))⟩
        | some pr =>
          obtain ⟨term, r4⟩ := pr
          rw [hg] at hc
          have HC := Lib.hid hc
          have HQ4 := Lib.hid hg
          clear hc hg
          go_wp2_with fail
          refine HC.out.mono ?_
          intro e x4 hp
          obtain ⟨rfl, hrd, hgr⟩ := hp.ok rfl
          have HI4 := Lib.hid (HI3.out.step HRM.out hgr hrd)
          simp only [i64v]
          clear hp hrd hgr HC HI3
          have hres : RES = stNum 3 (headM kind fr dst term).plain r4 := by rw [HRES.out]; simp only [readP, HQ1.out, HQ2.out, HQ3.out, HQ4.out]; rfl
          have HR4 := Lib.hid hres
          obtain ⟨b0, b1, b2, b3, _⟩ := ms_cells HI4.out.cell
          have f0 := HI4.out.free 0
          have f1 := HI4.out.free 1
          have f2 := HI4.out.free 2
          have f3 := HI4.out.free 3
          rw [HM.out] at b0 b1 b2 b3 f0 f1 f2 f3
          clear hres HQ1 HQ2 HQ3 HQ4 HRES
          simp only [zeroM] at b0 b1 b2 b3
          go_upto_region 2 with fail
          rw [← HM.out]
          clear b0 b1 b2 b3 f0 f1 f2 f3
          have hI5 := (((HI4.out.set HRM.out (Nat.le_of_eq HM.out.symm) (i := 0) (v := .int .i64 kind) (m' := headM kind 0 0 0) rfl (headM_own _ _ _ _ _ _)).set HRM.out (Nat.le_of_eq HM.out.symm) (i := 1) (v := .int .i64 fr) (m' := headM kind fr 0 0) rfl (headM_own _ _ _ _ _ _)).set HRM.out (Nat.le_of_eq HM.out.symm) (i := 2) (v := .int .i64 dst) (m' := headM kind fr dst 0) rfl (headM_own _ _ _ _ _ _)).set HRM.out (Nat.le_of_eq HM.out.symm) (i := 3) (v := .int .i64 term) (m' := headM kind fr dst term) rfl (headM_own _ _ _ _ _ _)
          obtain ⟨x5, hx5⟩ : ∃ X, X = (((x4.setCell ⟨M, 0, none⟩ (.int .i64 kind)).setCell ⟨M, 1, none⟩ (.int .i64 fr)).setCell ⟨M, 2, none⟩ (.int .i64 dst)).setCell ⟨M, 3, none⟩ (.int .i64 term) := ⟨_, rfl⟩
          rw [← hx5] at hI5 ⊢
          obtain ⟨b0, _⟩ := ms_cells hI5.cell
          have HI5 := Lib.hid hI5
          have HNM := Lib.hid (names_any kind x5)
          simp only [headM] at b0
          clear hI5 hx5 HI4 HX0
          go_wp2_with fail
          refine HNM.out.mono ?_
          rintro e x6 ⟨rfl, hb6⟩
          have HI6 := Lib.hid (HI5.out.below hb6)
          obtain ⟨p, yes, hpy⟩ : ∃ p yes, namesOf kind = (p, yes) := ⟨_, _, rfl⟩
          have hp : p = (headM kind fr dst term).plain.p := by show p = (namesOf kind).1; rw [hpy]
          simp only [hpy]
          have HP := Lib.hid hp
          clear hpy hp hb6 HI5 b0 HNM
          obtain ⟨P, hP⟩ : ∃ P, P = x6.heap.size := ⟨_, rfl⟩
          obtain ⟨x7, hx7⟩ : ∃ X, X = x6.alloc (.cells p.cs 59) := ⟨_, rfl⟩
          have hpc : x7.heap[P]? = some (.cells p.cs 59 (0, 0)) := by rw [hx7, hP]; exact heap_alloc_new x6 _
          have hb7 : Below x6.heap.size x6 x7 := hx7 ▸ below_alloc (Below.refl _ _) _
          have hPM : M < P := hP ▸ HI6.out.lt
          obtain ⟨q0, q1, q2, _⟩ := nine_cells hpc
          have HPC := Lib.hid hpc
          have HI7 := Lib.hid (HI6.out.below hb7)
          have HX7 := Lib.hid hx7
          have HPP := Lib.hid hP
          have HPM := Lib.hid hPM
          rw [hP, hx7] at q0 q1 q2
          unfold Pt.cs at HX7 q0 q1 q2 ⊢
          clear hpc hx7 hP hb7 hPM HI6
          go_wp2_with fail
          rw [← HX7.out, ← HPP.out]
          clear q0 q1 q2
          obtain ⟨T, hT⟩ : ∃ T, T = P + 1 := ⟨_, rfl⟩
          have hs7 : x7.heap.size = T := by rw [HX7.out, World.size_alloc, ← HPP.out, hT]
          obtain ⟨x8, hx8⟩ : ∃ X, X = x7.alloc (.cells (rowsT p M) 127) := ⟨_, rfl⟩
          have htc : x8.heap[T]? = some (.cells (rowsT p M) 127 (0, 0)) := by rw [hx8, ← hs7]; exact heap_alloc_new x7 _
          have hb8 : Below x7.heap.size x7 x8 := hx8 ▸ below_alloc (Below.refl _ _) _
          have HI8 := Lib.hid (HI7.out.below hb8)
          have HPC8 := Lib.hid ((hb8.block P (Array.getElem?_eq_some_iff.1 HPC.out).1).trans HPC.out)
          have hTM : M < T := by have := HPM.out; omega
          have HTM := Lib.hid hTM
          have HTC := Lib.hid htc
          have HR8 : Hid (RES = stNum (3 - 0) (headM kind fr dst term).plain r4) := HR4.out
          unfold rowsT at hx8
          rw [← hT, ← hx8]
          clear hT hs7 hx8 htc hb8 hTM HI7 HPC HR4 HX7 HPP
          go_loopw [43] (fun i wr => ∃ (k : Nat) (m : Ms) (r : List UInt8), i = .int .i64 k ∧ k ≤ 3 ∧ Hid (RES = stNum (3 - k) m.plain r) ∧ Hid (m.kind = kind ∧ m.es = []) ∧ Hid (RdI w R M r wr m) ∧ Hid (wr.heap[P]? = some (.cells p.cs 59 (0, 0))) ∧ Hid (wr.heap[T]? = some (.cells (rowsT p M) 127 (0, 0)))) (fun i _ => 3 - (intOf i).toNat)
          case atStart => exact ⟨0, _, r4, rfl, by omega, HR8.out, ⟨rfl, rfl⟩, HI8.out, HPC8.out, HTC.out⟩
          case round =>
            obtain ⟨k, m, r, rfl, hk, HRS, HMK, HI, HPW, HTW⟩ := hrel
            clear HI8 HPC8 HTC HR8
            by_cases hlt : k < 3
            · obtain ⟨e0, e1⟩ := rowsT_at HTW.out k hlt
              have hkn : (k : Int) < 3 := by omega
              have hst := HRS.out
              rw [stNum_at _ _ k hlt, show m.plain.p = p by rw [HP.out]; show (namesOf m.kind).1 = (namesOf kind).1; rw [HMK.out.1]] at hst
              obtain ⟨E, hE⟩ : ∃ E, E = wr.heap.size := ⟨_, rfl⟩
              obtain ⟨y0, hy0⟩ : ∃ Y, Y = wr.alloc (.cells #[.bool (nameN p k), .pointer (some ⟨M, 4 + k, none⟩)] 127) := ⟨_, rfl⟩
              have hec : y0.heap[E]? = some (.cells #[.bool (nameN p k), .pointer (some ⟨M, 4 + k, none⟩)] 127 (0, 0)) := by rw [hy0, hE]; exact heap_alloc_new wr _
              have hby : Below wr.heap.size wr y0 := hy0 ▸ below_alloc (Below.refl _ _) _
              have hMP := HPM.out
              have hMT := HTM.out
              have hRM := HRM.out
              have HJ := Lib.hid (HI.out.below hby)
              have HPY := Lib.hid ((hby.block P (Array.getElem?_eq_some_iff.1 HPW.out).1).trans HPW.out)
              have HTY := Lib.hid ((hby.block T (Array.getElem?_eq_some_iff.1 HTW.out).1).trans HTW.out)
              have HME : Hid (M < E) := by rw [hE]; exact HI.out.lt
              have HEC := Lib.hid hec
              obtain ⟨g0, g1⟩ := pair_cells hec
              have HY0 := Lib.hid hy0
              have HEE := Lib.hid hE
              rw [hE, hy0] at g0
              clear hec hby hy0 hE
              have HST := Lib.hid hst
              clear hst
              cases hnm : nameN p k with
              | false =>
                have HST2 : Hid (RES = stNum (3 - (k + 1)) m.plain r) := by have := HST.out; rw [hnm] at this; exact this
                rw [hnm] at e0 g0 HY0
                have HN := Lib.hid hnm
                clear hnm HST g1
                go_wp2_with fail
                rw [← HY0.out]
                go_roundw
                case rel => exact ⟨k + 1, m, r, by go_num, by omega, HST2.out, HMK.out, HJ.out, HPY.out, HTY.out⟩
                case measure => simp [intOf]; omega
              | true =>
                rw [hnm] at e0 g0 HY0 HEC
                have hst := HST.out
                rw [hnm, if_pos rfl] at hst
                have HST2 := Lib.hid hst
                have HN := Lib.hid hnm
                clear hnm HST hst
                cases hgn : getNum r with
                | none =>
                  have hc := num_any R r y0.drew (HJ.out.below (Below.refl _ _).drew).rd
                  rw [hgn] at hc
                  have hno : RES = none := by rw [HST2.out, hgn]
                  have HC := Lib.hid hc
                  have HNN := Lib.hid hno
                  clear hc hno hgn
                  go_wp2_with fail
                  rw [← HEE.out, ← HY0.out]
                  go_region_dies
                  all_goals
                    refine HC.out.mono ?_
                    intro e w' hp
                    obtain ⟨rfl, hgr⟩ := hp.no rfl
                    simp only [Wrong]
                    go_wp2
                    exact ⟨rfl, HNO.out _ HNN.out (HJ.out.touch.trans (Touch.of_grown (grown_undrew hgr) (by simp)))⟩
                | some pr =>
                  obtain ⟨n, r1⟩ := pr
                  have hc := num_any R r y0.drew (HJ.out.below (Below.refl _ _).drew).rd
                  rw [hgn] at hc
                  have hst : RES = stNum (3 - (k + 1)) (m.plain.setN k n) r1 := by rw [HST2.out, hgn]
                  have HC := Lib.hid hc
                  have HST3 := Lib.hid hst
                  clear hc hst hgn HST2
                  go_wp2_with fail
                  rw [← HEE.out, ← HY0.out]
                  clear e0 e1 g0 HI HPW HTW
                  go_region_law (first
                    | (go_simp; go_at_call 82; refine HC.out.mono ?_; intro e y1 hp; obtain ⟨rfl, hrd, hgr⟩ := hp.ok rfl
                       have hj1 := (HJ.out.below (Below.refl _ _).drew).step HRM.out hgr hrd
                       have hec1 := (hgr.block E (Array.getElem?_eq_some_iff.1 HEC.out).1 (fun e => by have := HME.out; injection e; omega)).trans HEC.out
                       obtain ⟨_, h1⟩ := pair_cells hec1
                       obtain ⟨ov, hov⟩ := num_cell hj1.cell k hlt
                       have hfr := hj1.free (4 + k)
                       have HJ1 := Lib.hid hj1; have HGR := Lib.hid hgr; simp only [i64v]; clear hp hrd hgr hj1 hec1))
                  all_goals
                    go_wp2_with fail
                    go_roundw
                    case rel =>
                      have ht : Touch [M] y1 (y1.setCell ⟨M, 4 + k, none⟩ (.int .i64 n)) := Touch.set y1 M (4 + k) _ (by simp)
                      have hsz : y0.heap.size ≤ y1.heap.size := HGR.out.size
                      have hkp : ∀ g, M < g → g < y0.heap.size → (y1.setCell ⟨M, 4 + k, none⟩ (.int .i64 n)).heap[g]? = y0.heap[g]? := fun g h1 h2 => (ht.block g (by omega) (by simp; omega)).trans (HGR.out.block g h2 (fun e => by injection e; omega))
                      refine ⟨k + 1, m.setN k n, r1, by go_num, by omega, by show _ = _; rw [setN_plain m k n hlt]; exact HST3.out, ⟨(setN_es m k n hlt).2.trans HMK.out.1, (setN_es m k n hlt).1.trans HMK.out.2⟩, HJ1.out.set HRM.out (Nat.le_of_eq HM.out.symm) (setN_cs m k n hlt) (HJ1.out.own.setN k n hlt), ?_, ?_⟩
                      · exact (hkp P hMP (Array.getElem?_eq_some_iff.1 HPY.out).1).trans HPY.out
                      · exact (hkp T hMT (Array.getElem?_eq_some_iff.1 HTY.out).1).trans HTY.out
                    case measure => simp [intOf]; omega
            · have hke : k = 3 := by omega
              subst hke
              have HS0 : Hid (RES = stOk m.plain r) := HRS.out
              have HPK : Hid (∀ m : Ms, m.kind = kind → m.plain.p = p) := fun m h => by rw [HP.out]; show (namesOf m.kind).1 = (namesOf kind).1; rw [h]
              obtain ⟨z0, hz0⟩ : ∃ z, z = wr := ⟨_, rfl⟩
              rw [← hz0] at HI HPW ⊢
              clear HRS HTW hz0 wr
              obtain ⟨_, _, _, q3, _, _, _, _, _⟩ := nine_cells HPW.out
              go_upto_if 56 with fail
              go_cut [] from 11 to 59 (fun wx => ∃ (m : Ms) (r : List UInt8), Hid (RES = stEnts m.plain r) ∧ Hid (m.kind = kind ∧ m.es = []) ∧ Hid (RdI w R M r wx m) ∧ Hid (wx.heap[P]? = some (.cells p.cs 59 (0, 0))))
              case first =>
                have hst := HS0.out
                rw [stOk, HPK.out m HMK.out.1] at hst
                cases hb : p.ok with
                | false =>
                  rw [hb] at hst q3
                  have HS1 : Hid (RES = stEnts m.plain r) := hst
                  clear hb hst
                  go_wp2_with fail
                  go_meet
                  exact ⟨m, r, HS1.out, HMK.out, HI.out, HPW.out⟩
                | true =>
                  rw [hb, if_pos rfl] at hst
                  rw [hb] at q3
                  have HS1 := Lib.hid hst
                  clear hb hst
                  have hc := flag_any R r z0 HI.out.rd
                  cases hg : getFlag r with
                  | none =>
                    rw [hg] at hc
                    have hno : RES = none := by rw [HS1.out, hg]
                    have HC := Lib.hid hc
                    have HNN := Lib.hid hno
                    clear hc hg hno
                    go_wp2_with fail
                    refine HC.out.mono ?_
                    intro e w' hp
                    obtain ⟨rfl, hgr⟩ := hp.no rfl
                    simp only [Wrong]
                    go_wp2
                    exact ⟨rfl, HNO.out _ HNN.out (HI.out.touch.trans (Touch.of_grown hgr (by simp)))⟩
                  | some pr =>
                    obtain ⟨b, r1⟩ := pr
                    rw [hg] at hc
                    have hst : RES = stEnts { m.plain with ok := b } r1 := by rw [HS1.out, hg]
                    have HC := Lib.hid hc
                    have HST3 := Lib.hid hst
                    clear hc hst hg HS1
                    go_wp2_with fail
                    refine HC.out.mono ?_
                    intro e z1 hp
                    obtain ⟨rfl, hrd, hgr⟩ := hp.ok rfl
                    simp only [boolv]
                    have hj := HI.out.step HRM.out hgr hrd
                    have hpw : z1.heap[P]? = some (.cells p.cs 59 (0, 0)) := (hgr.block P (Array.getElem?_eq_some_iff.1 HPW.out).1 (fun e => by have := HPM.out; have := HRM.out; injection e; omega)).trans HPW.out
                    obtain ⟨_, _, _, _, _, _, _, b7, _, _, _, _, _, _⟩ := ms_cells hj.cell
                    have hfr := hj.free 7
                    have HJ := Lib.hid hj
                    have HPZ := Lib.hid hpw
                    clear hp hrd hgr hj hpw HC HI HPW
                    go_wp2_with fail
                    go_meet
                    refine ⟨{ m with ok := b }, r1, HST3.out, HMK.out, HJ.out.set HRM.out (Nat.le_of_eq HM.out.symm) (i := 7) (v := .bool b) rfl ⟨HJ.out.own.row, HJ.out.own.len, HJ.out.own.ents, HJ.out.own.data, HJ.out.own.cv, HJ.out.own.cl⟩, ?_⟩
                    exact ((Touch.set z1 M 7 (.bool b) (by simp : M ∈ [M])).block P (Array.getElem?_eq_some_iff.1 HPZ.out).1 (by have := HPM.out; simp; omega)).trans HPZ.out
              case rest =>
              obtain ⟨m, r, HS0, HMK, HI, HPW⟩ := hcut
              obtain ⟨z0, hz0⟩ : ∃ z, z = wc := ⟨_, rfl⟩
              rw [← hz0] at HI HPW ⊢
              clear hz0 wc
              obtain ⟨_, _, _, _, q4, _⟩ := nine_cells HPW.out
              go_upto_if 61 with fail
              go_cut [] from 11 to 87 (fun wx => ∃ (m : Ms) (r : List UInt8), Hid (RES = stOff m.plain r) ∧ Hid (m.kind = kind) ∧ Hid (RdI w R M r wx m) ∧ Hid (wx.heap[P]? = some (.cells p.cs 59 (0, 0))))
              case first =>
                have hst := HS0.out
                rw [stEnts, HPK.out m HMK.out.1] at hst
                cases hb : p.entries with
                | false =>
                  rw [hb] at hst q4
                  have HS1 : Hid (RES = stOff m.plain r) := hst
                  clear hb hst
                  go_wp2_with fail
                  go_meet
                  exact ⟨m, r, HS1.out, HMK.out.1, HI.out, HPW.out⟩
                | true =>
                  rw [hb, if_pos rfl] at hst
                  rw [hb] at q4
                  have HS1 := Lib.hid hst
                  clear hb hst
                  have hc := count_any R 8 r z0 HI.out.rd
                  cases hg : getCount 8 r with
                  | none =>
                    rw [hg] at hc
                    have hno : RES = none := by rw [HS1.out, hg]
                    have HC := Lib.hid hc
                    have HNN := Lib.hid hno
                    clear hc hg hno
                    go_wp2_with fail
                    refine HC.out.mono ?_
                    intro e w' hp
                    obtain ⟨rfl, hgr⟩ := hp.no rfl
                    simp only [Wrong]
                    go_wp2
                    exact ⟨rfl, HNO.out _ HNN.out (HI.out.touch.trans (Touch.of_grown hgr (by simp)))⟩
                  | some pr =>
                    obtain ⟨n, r1⟩ := pr
                    have hn := getCount_range hg
                    obtain ⟨N, rfl⟩ : ∃ N : Nat, n = (N : Int) := ⟨n.toNat, by omega⟩
                    rw [hg] at hc
                    have hst : RES = stEs N m.plain r1 := by rw [HS1.out, hg]; rfl
                    have hN8 : N ≤ 8 := by omega
                    have HC := Lib.hid hc
                    have HST3 := Lib.hid hst
                    clear hc hst hg HS1 hn
                    go_wp2_with fail
                    refine HC.out.mono ?_
                    intro e z1 hp
                    obtain ⟨rfl, hrd, hgr⟩ := hp.ok rfl
                    simp only [i64v]
                    have hj := HI.out.step HRM.out hgr hrd
                    have hpw : z1.heap[P]? = some (.cells p.cs 59 (0, 0)) := (hgr.block P (Array.getElem?_eq_some_iff.1 HPW.out).1 (fun e => by have := HPM.out; have := HRM.out; injection e; omega)).trans HPW.out
                    have hlen0 : m.en = 0 := by rw [← HI.out.own.len, HMK.out.2]; rfl
                    have HJ := Lib.hid hj
                    have HPZ := Lib.hid hpw
                    have HL0 := Lib.hid hlen0
                    clear hp hrd hgr hj hpw HC HI HPW hlen0 q4
                    go_wp2_with fail
                    go_loopw [64] (fun i wr => ∃ (k : Nat) (m : Ms) (r : List UInt8), i = .int .i64 k ∧ k ≤ N ∧ Hid (RES = stEs (N - k) m.plain r) ∧ Hid (m.kind = kind ∧ m.en = k) ∧ Hid (RdI w R M r wr m) ∧ Hid (wr.heap[P]? = some (.cells p.cs 59 (0, 0)))) (fun i _ => N - (intOf i).toNat)
                    case atStart => exact ⟨0, m, r1, rfl, by omega, HST3.out, ⟨HMK.out.1, HL0.out⟩, HJ.out, HPZ.out⟩
                    case round =>
                      clear HST3 HMK HL0 HJ HPZ
                      obtain ⟨k, m, r, rfl, hk, HS1, HMK, HI, HPW⟩ := hrel
                      by_cases hlt : k < N
                      · have hkn : (k : Int) < (N : Int) := by omega
                        have hst := HS1.out
                        rw [show N - k = (N - (k + 1)) + 1 by omega, stEs] at hst
                        have HS2 := Lib.hid hst
                        have hcz := fun Z (hZ : Below wr.heap.size wr Z) => num_any R r Z (HI.out.below hZ).rd
                        have HCZ := Lib.hid hcz
                        have hb4 : ∀ Z, Below wr.heap.size wr Z → Z.cell? ⟨M, 4, none⟩ = some (.int .i64 m.index) := fun Z hZ => by
                          obtain ⟨_, _, _, _, b4, _⟩ := ms_cells (HI.out.below hZ).cell
                          exact b4
                        have HB4 := Lib.hid hb4
                        clear hst HS1 hcz hb4
                        go_upto_region 15 with fail
                        go_cut [8] from 66 to 74 (fun v8 wx => ∃ (E : Nat) (tm : Int) (r1 : List UInt8), v8 = .pointer (some ⟨E, 0, none⟩) ∧ Hid (getNum r = some (tm, r1)) ∧ Hid (RdI w R M r1 wx m) ∧ Hid (wx.heap[P]? = some (.cells p.cs 59 (0, 0))) ∧ Hid (wx.heap[E]? = some (.cells #[.int .i64 (wrap64 (wrap64 (m.index + 1) + (k : Int))), .int .i64 tm, .int .i64 0, .slice none 0 0] 41 (0, 0))) ∧ Hid (Value.ownBlock (.slice m.ea m.en m.ecap) ≠ some E) ∧ Hid (M < E))
                        case first =>
                          obtain ⟨zb, hzb⟩ : ∃ Z, Z = wr.alloc (.cells #[.int .i64 0, .int .i64 0, .int .i64 0, .slice none 0 0] 41) := ⟨_, rfl⟩
                          have hbz : Below wr.heap.size wr zb := hzb ▸ below_alloc (Below.refl _ _) _
                          have b4 := HB4.out wr (Below.refl _ _)
                          have b4' := HB4.out zb hbz
                          rw [hzb] at b4'
                          cases hgn : getNum r with
                          | none =>
                            have hno : RES = none := by rw [HS2.out, hgn]
                            have HNN := Lib.hid hno
                            have hc1 := HCZ.out wr.drew (Below.refl _ _).drew
                            have hc2 := HCZ.out zb.drew hbz.drew
                            rw [hgn] at hc1 hc2
                            have HC1 := Lib.hid hc1
                            have HC2 := Lib.hid hc2
                            have HBZ := Lib.hid hbz
                            have HZB := Lib.hid hzb
                            clear hno hgn hc1 hc2 hbz hzb
                            go_region_dies
                            all_goals
                              first
                              | (refine HC1.out.mono ?_
                                 intro e w' hp
                                 obtain ⟨rfl, hgr⟩ := hp.no rfl
                                 simp only [Wrong]
                                 go_wp2
                                 exact ⟨rfl, HNO.out _ HNN.out (HI.out.touch.trans (Touch.of_grown (grown_undrew hgr) (by simp)))⟩)
                              | (rw [← HZB.out]
                                 refine HC2.out.mono ?_
                                 intro e w' hp
                                 obtain ⟨rfl, hgr⟩ := hp.no rfl
                                 simp only [Wrong]
                                 go_wp2
                                 exact ⟨rfl, HNO.out _ HNN.out (HI.out.touch.trans ((Touch.of_below HBZ.out).trans (Touch.of_grown (grown_undrew hgr) (by simp))))⟩)
                          | some pr =>
                            obtain ⟨tm, r1⟩ := pr
                            have hc1 := HCZ.out wr.drew (Below.refl _ _).drew
                            have hc2 := HCZ.out zb.drew hbz.drew
                            rw [hgn] at hc1 hc2
                            have HC1 := Lib.hid hc1
                            have HC2 := Lib.hid hc2
                            have HBZ := Lib.hid hbz
                            have HZB := Lib.hid hzb
                            have HQ := Lib.hid hgn
                            clear hgn hc1 hc2 hbz hzb
                            go_region_held3 (fun V => V.cell? ⟨M, 4, none⟩ = some (.int .i64 m.index)) (first | exact HB4.out _ (Below.refl _ _).drew | exact HY4.out _ (Below.refl _ _) | exact HY4.out _ (below_alloc (Below.refl _ _) _) | exact HS4.out _ _ _ _ | go_keep)
                              (first
                                | (go_at_call 82; refine HC1.out.mono ?_; intro e y1 hp; obtain ⟨rfl, hrd, hgr⟩ := hp.ok rfl
                                   have hj1 := (HI.out.below (Below.refl _ _).drew).step HRM.out hgr hrd
                                   have HY4 : Hid (∀ Z, Below y1.heap.size y1 Z → Z.cell? ⟨M, 4, none⟩ = some (.int .i64 m.index)) := fun Z hZ => by obtain ⟨_, _, _, _, b4, _⟩ := ms_cells (hj1.below hZ).cell; exact b4
                                   have HJ1 := Lib.hid hj1; have HGR := Lib.hid hgr; simp only [i64v]; clear hp hrd hgr hj1)
                                | (go_at_call 82; rw [← HZB.out]; refine HC2.out.mono ?_; intro e y1 hp; obtain ⟨rfl, hrd, hgr⟩ := hp.ok rfl
                                   have hj1 := (HI.out.below (HBZ.out).drew).step HRM.out hgr hrd
                                   have HY4 : Hid (∀ Z, Below y1.heap.size y1 Z → Z.cell? ⟨M, 4, none⟩ = some (.int .i64 m.index)) := fun Z hZ => by obtain ⟨_, _, _, _, b4, _⟩ := ms_cells (hj1.below hZ).cell; exact b4
                                   have hez := (hgr.block wr.heap.size (by show wr.heap.size < zb.heap.size; rw [HZB.out, World.size_alloc]; omega) (fun e => by have := HI.out.lt; have := HRM.out; injection e; omega)).trans (show zb.drew.heap[wr.heap.size]? = some (.cells #[.int .i64 0, .int .i64 0, .int .i64 0, .slice none 0 0] 41 (0, 0)) from HZB.out ▸ heap_alloc_new wr _)
                                   obtain ⟨⟨e0, e1, e2, e3⟩, f0, f1, f2, f3⟩ := four_cells hez
                                   have HEZ := Lib.hid hez; clear hez
                                   have HS4 : Hid (∀ v0 v1 v2 v3, (set4 y1 wr.heap.size v0 v1 v2 v3).cell? ⟨M, 4, none⟩ = some (.int .i64 m.index)) := fun v0 v1 v2 v3 => set4_cell (Nat.ne_of_lt HI.out.lt) (HY4.out _ (Below.refl _ _)) _ _ _ _
                                   have HJ1 := Lib.hid hj1; have HGR := Lib.hid hgr; simp only [i64v]; clear hp hrd hgr hj1))
                            all_goals
                              go_wp2_with fail
                              simp only [wrap_eq]
                              go_meet
                            · have hsz : wr.heap.size ≤ y1.heap.size := HGR.out.size
                              refine ⟨y1.heap.size, tm, r1, rfl, HQ.out, HJ1.out.below (below_alloc (Below.refl _ _) _), ?_, heap_alloc_new y1 _, fun h => ?_, HJ1.out.lt⟩
                              · exact (heap_alloc_old y1 _ (Nat.lt_of_lt_of_le (Array.getElem?_eq_some_iff.1 HPW.out).1 hsz)).trans ((HGR.out.block P (Array.getElem?_eq_some_iff.1 HPW.out).1 (fun e => by have := HPM.out; have := HRM.out; injection e; omega)).trans HPW.out)
                              · have := (HJ1.out.own.row.lt _ h).2; omega
                            · have hsz : zb.heap.size ≤ y1.heap.size := HGR.out.size
                              have hzs : zb.heap.size = wr.heap.size + 1 := by rw [HZB.out, World.size_alloc]
                              have ht : Touch [R] wr y1 := (Touch.of_below HBZ.out).trans (Touch.of_grown (grown_undrew HGR.out) (by simp))
                              have hlt2 := HI.out.lt
                              have hRM2 := HRM.out
                              refine ⟨wr.heap.size, tm, r1, rfl, HQ.out, HI.out.later HRM.out (ht.fresh (set4_touch y1 wr.heap.size (.int .i64 (wrap64 (wrap64 (m.index + 1) + (k : Int)))) (.int .i64 tm) (.int .i64 0) (.slice none 0 0)) (Nat.le_refl _)) (HJ1.out.rd.high fun g hg hl => set4_block y1 (by omega) _ _ _ _), ?_, set4_own HEZ.out _ _ _ _, fun h => ?_, hlt2⟩
                              · exact (set4_block y1 (Nat.ne_of_lt (Array.getElem?_eq_some_iff.1 HPW.out).1) _ _ _ _).trans ((ht.block P (Array.getElem?_eq_some_iff.1 HPW.out).1 (by have := HPM.out; simp; omega)).trans HPW.out)
                              · have := (HI.out.own.row.lt _ h).2; omega
                        case rest =>
                        obtain ⟨E, tm, r1, rfl, HQ1, HJ, HPZ, HEC, HNE, HME⟩ := hcut
                        obtain ⟨y1, hy1⟩ : ∃ y, y = wc := ⟨_, rfl⟩
                        rw [← hy1] at HJ HPZ HEC ⊢
                        clear hy1 wc HI HPW HCZ HB4
                        have hst := HS2.out
                        rw [HQ1.out] at hst
                        simp only at hst
                        have HS3 := Lib.hid hst
                        clear hst HS2 HQ1
                        have hRE : ∀ g, some R = some g → g ≠ E ∧ g ≠ P := fun g h => by have := HME.out; have := HRM.out; have := HPM.out; injection h; omega
                        have HRE := Lib.hid hRE
                        clear hRE
                        have hc := count_any R 2 r1 y1 HJ.out.rd
                        cases hg : getCount 2 r1 with
                        | none =>
                          rw [hg] at hc
                          have hno : RES = none := by rw [HS3.out, hg]
                          have HC := Lib.hid hc
                          have HNN := Lib.hid hno
                          clear hc hg hno
                          go_wp2_with fail
                          refine HC.out.mono ?_
                          intro e w' hp
                          obtain ⟨rfl, hgr⟩ := hp.no rfl
                          simp only [Wrong]
                          go_wp2
                          exact ⟨rfl, HNO.out _ HNN.out (HJ.out.touch.trans (Touch.of_grown hgr (by simp)))⟩
                        | some pr =>
                          obtain ⟨kd, r2⟩ := pr
                          rw [hg] at hc
                          have hst := HS3.out
                          rw [hg] at hst
                          simp only at hst
                          have HC := Lib.hid hc
                          have HS4 := Lib.hid hst
                          clear hc hst hg HS3
                          go_wp2_with fail
                          refine HC.out.mono ?_
                          intro e y2 hp
                          obtain ⟨rfl, hrd, hgr⟩ := hp.ok rfl
                          simp only [i64v]
                          have HJ2 := Lib.hid (HJ.out.step HRM.out hgr hrd)
                          have HEC2 := Lib.hid ((hgr.block E (Array.getElem?_eq_some_iff.1 HEC.out).1 (fun e => (HRE.out _ e.symm).1 rfl)).trans HEC.out)
                          have HPC2 := Lib.hid ((hgr.block P (Array.getElem?_eq_some_iff.1 HPZ.out).1 (fun e => (HRE.out _ e.symm).2 rfl)).trans HPZ.out)
                          clear hp hrd hgr HC HJ HEC HPZ
                          have hc := bytes_any R r2 y2 HJ2.out.rd
                          cases hg : getBytes r2 with
                          | none =>
                            rw [hg] at hc
                            have hno : RES = none := by rw [HS4.out, hg]
                            have HC := Lib.hid hc
                            have HNN := Lib.hid hno
                            clear hc hg hno
                            go_wp2_with fail
                            refine HC.out.mono ?_
                            intro e w' hp
                            obtain ⟨rfl, hgr⟩ := hp.no rfl
                            simp only [Wrong]
                            go_wp2
                            exact ⟨rfl, HNO.out _ HNN.out (HJ2.out.touch.trans (Touch.of_grown hgr (by simp)))⟩
                          | some pr =>
                            obtain ⟨b, r3⟩ := pr
                            rw [hg] at hc
                            have hst := HS4.out
                            rw [hg] at hst
                            simp only at hst
                            have HC := Lib.hid hc
                            have HS5 := Lib.hid hst
                            clear hc hst hg HS4
                            go_wp2_with fail
                            refine HC.out.mono ?_
                            intro e y3 hp
                            obtain ⟨_, rfl, ⟨bo, bn, bc, rfl, hown⟩, hrd, hgr⟩ := hp.ok rfl
                            have HJ3 := Lib.hid (HJ2.out.step HRM.out hgr hrd)
                            have hec := (hgr.block E (Array.getElem?_eq_some_iff.1 HEC2.out).1 (fun e => (HRE.out _ e.symm).1 rfl)).trans HEC2.out
                            have HPC3 := Lib.hid ((hgr.block P (Array.getElem?_eq_some_iff.1 HPC2.out).1 (fun e => (HRE.out _ e.symm).2 rfl)).trans HPC2.out)
                            have HOW := Lib.hid (hown.more (Nat.succ_le_of_lt HJ2.out.lt))
                            obtain ⟨⟨e0, e1, e2, e3⟩, f0, f1, f2, f3⟩ := four_cells hec
                            have HEC3 := Lib.hid hec
                            clear hp hrd hgr hown hec HC HJ2 HEC2 HPC2
                            go_upto_region 17 with fail
                            have ht : Touch [E] y3 ((y3.setCell ⟨E, 2, none⟩ (.int .i64 kd)).setCell ⟨E, 3, none⟩ (.slice bo bn bc)) := touch_set (touch_set (Touch.refl _ _) _ _ _ (by simp)) _ _ _ (by simp)
                            have hec4 := set_block (i := 3) (set_block (i := 2) HEC3.out (.int .i64 kd)) (.slice bo bn bc)
                            obtain ⟨y4, hy4⟩ : ∃ y, y = (y3.setCell ⟨E, 2, none⟩ (.int .i64 kd)).setCell ⟨E, 3, none⟩ (.slice bo bn bc) := ⟨_, rfl⟩
                            rw [← hy4] at ht hec4 ⊢
                            have hj4 := HJ3.out.setE HRM.out (Nat.le_of_eq HM.out.symm) HME.out HEC3.out HNE.out ht
                            have how4 : Own8 y4 (M + 1) bo bn bc b := own_setE HOW.out (own_ne_cells HOW.out HEC3.out (by decide)) ht
                            have hpc4 : y4.heap[P]? = some (.cells p.cs 59 (0, 0)) := (ht.block P (Array.getElem?_eq_some_iff.1 HPC3.out).1 (fun h => by
                              simp at h
                              have h1 := HPC3.out
                              rw [h, HEC3.out] at h1
                              injection h1 with h1
                              injection h1 with _ h2
                              exact absurd h2 (by decide))).trans HPC3.out
                            have hec5 : y4.heap[E]? = some (.cells #[.int .i64 (wrap64 (wrap64 (m.index + 1) + (k : Int))), .int .i64 tm, .int .i64 kd, .slice bo bn bc] 41 (0, 0)) := hec4
                            clear e0 e1 e2 e3 f0 f1 f2 f3
                            obtain ⟨⟨e0, e1, e2, e3⟩, _⟩ := four_cells hec5
                            obtain ⟨_, _, _, _, _, _, _, _, b8, _⟩ := ms_cells hj4.cell
                            have ho2 : ∀ o, (y4.alloc o).ownsRow (M + 1) 41 4 (.slice m.ea m.en m.ecap) m.en (m.es.flatMap En.cells) := fun o => hj4.own.row.alloc o
                            have hm6 : ∀ o y6, (y4.alloc o).grownBy y6 (Value.ownBlock (.slice m.ea m.en m.ecap)) → y6.heap[M]? = some (.cells m.cs 28 (0, 0)) := fun o y6 hg => (hg.block M (by rw [World.size_alloc]; have := hj4.lt; omega) (fun e => by have := (hj4.own.row.lt M e.symm).1; omega)).trans ((heap_alloc_old y4 o hj4.lt).trans hj4.cell)
                            have hml : m.en ≤ 8 := by have := HMK.out.2; omega
                            have HO2 := Lib.hid ho2
                            have HM6 := Lib.hid hm6
                            have HJ4 := Lib.hid hj4
                            have HOW4 := Lib.hid how4
                            have HPC4 := Lib.hid hpc4
                            have hsz4 : M + 1 ≤ y4.heap.size := hj4.lt
                            have HSZ4 := Lib.hid hsz4
                            clear ht hec4 hec5 hy4 hj4 how4 hpc4 ho2 hm6 hsz4 HJ3 HEC3 HPC3 HOW
                            go_wp2_with (at_builtin; refine wpList_appendE rfl (.tmp 82) (.tmp 84) rfl (M + 1) m.ea m.en m.ecap (m.es.flatMap En.cells) rfl (HO2.out _) (some ⟨y4.heap.size, 0, none⟩) 1 1 (En.cells ⟨wrap64 (wrap64 (m.index + 1) + (k : Int)), tm, kd, ⟨bo, bn, bc, b⟩⟩) rfl (RowN.of_block (heap_alloc_new y4 _) rfl rfl) (fun h => by cases h) (cells_one4 _) (by omega) (by rw [World.size_alloc]; exact Nat.le_succ_of_le HSZ4.out) (m.en + 1) rfl ?_; intro ao6 cap6 y6 hown6 hg6 hat6; obtain ⟨_, _, _, _, _, _, _, _, b8', _⟩ := ms_cells (HM6.out _ _ hg6); have hf6 : y6.frozen? ⟨M, 8, none⟩ = false := (by simp [World.frozen?, HM6.out _ _ hg6]); have HOW6 := Lib.hid hown6; have HG6 := Lib.hid hg6; clear hown6 hg6 hat6)
                            go_roundw
                            case rel =>
                              obtain ⟨hj7, hkk⟩ := HJ4.out.grow (e := ⟨wrap64 (wrap64 (m.index + 1) + (k : Int)), tm, kd, ⟨bo, bn, bc, b⟩⟩) HRM.out (Nat.le_of_eq HM.out.symm) HG6.out HOW6.out HOW4.out
                              have hel : (m.plain.es.length : Int) = (k : Int) := by
                                have h1 := HJ4.out.own.len
                                have h2 := HMK.out.2
                                show ((m.es.map En.plain).length : Int) = _
                                rw [List.length_map]; omega
                              refine ⟨k + 1, m.more ao6 cap6 ⟨wrap64 (wrap64 (m.index + 1) + (k : Int)), tm, kd, ⟨bo, bn, bc, b⟩⟩, r3, by go_num, by omega, ?_, ⟨HMK.out.1, by show m.en + 1 = _; rw [HMK.out.2]⟩, hj7, ?_⟩
                              · show RES = _
                                rw [HS5.out, hel, more_plain]
                                rfl
                              · exact (hkk P (Array.getElem?_eq_some_iff.1 HPC4.out).1 (by have := HPM.out; omega) (own_ne_cells HJ4.out.own.row HPC4.out (by decide))).trans HPC4.out
                            case measure => simp [intOf]; omega
                      · have hke : N - k = 0 := by omega
                        have HS2 : Hid (RES = stOff m.plain r) := by have := HS1.out; rw [hke] at this; exact this
                        clear hke HS1
                        go_wp2_with fail
                        go_meet
                        exact ⟨m, r, HS2.out, HMK.out.1, HI.out, HPW.out⟩
              case rest =>
              obtain ⟨m, r, HS0, HMK, HI, HPW⟩ := hcut
              obtain ⟨z0, hz0⟩ : ∃ z, z = wc := ⟨_, rfl⟩
              rw [← hz0] at HI HPW ⊢
              clear hz0 wc
              obtain ⟨_, _, _, _, _, q5, _, _, _⟩ := nine_cells HPW.out
              go_upto_if 89 with fail
              go_cut [] from 11 to 92 (fun wx => ∃ (m : Ms) (r : List UInt8), Hid (RES = stData m.plain r) ∧ Hid (m.kind = kind) ∧ Hid (RdI w R M r wx m) ∧ Hid (wx.heap[P]? = some (.cells p.cs 59 (0, 0))))
              case first =>
                have hst := HS0.out
                rw [stOff, HPK.out m HMK.out] at hst
                cases hb : p.off with
                | false =>
                  rw [hb] at hst q5
                  have HS1 : Hid (RES = stData m.plain r) := hst
                  clear hb hst
                  go_wp2_with fail
                  go_meet
                  exact ⟨m, r, HS1.out, HMK.out, HI.out, HPW.out⟩
                | true =>
                  rw [hb, if_pos rfl] at hst
                  rw [hb] at q5
                  have HS1 := Lib.hid hst
                  clear hb hst
                  have hc := num_any R r z0 HI.out.rd
                  cases hg : getNum r with
                  | none =>
                    rw [hg] at hc
                    have hno : RES = none := by rw [HS1.out, hg]
                    have HC := Lib.hid hc
                    have HNN := Lib.hid hno
                    clear hc hg hno
                    go_wp2_with fail
                    refine HC.out.mono ?_
                    intro e w' hp
                    obtain ⟨rfl, hgr⟩ := hp.no rfl
                    simp only [Wrong]
                    go_wp2
                    exact ⟨rfl, HNO.out _ HNN.out (HI.out.touch.trans (Touch.of_grown hgr (by simp)))⟩
                  | some pr =>
                    obtain ⟨n, r1⟩ := pr
                    rw [hg] at hc
                    have hst : RES = stData { m.plain with off := n } r1 := by rw [HS1.out, hg]
                    have HC := Lib.hid hc
                    have HST3 := Lib.hid hst
                    clear hc hst hg HS1
                    go_wp2_with fail
                    refine HC.out.mono ?_
                    intro e z1 hp
                    obtain ⟨rfl, hrd, hgr⟩ := hp.ok rfl
                    simp only [i64v]
                    have hj := HI.out.step HRM.out hgr hrd
                    have hpw : z1.heap[P]? = some (.cells p.cs 59 (0, 0)) := (hgr.block P (Array.getElem?_eq_some_iff.1 HPW.out).1 (fun e => by have := HPM.out; have := HRM.out; injection e; omega)).trans HPW.out
                    obtain ⟨_, _, _, _, _, _, _, _, _, b9, _, _, _, _⟩ := ms_cells hj.cell
                    have hfr := hj.free 9
                    have HJ := Lib.hid hj
                    have HPZ := Lib.hid hpw
                    clear hp hrd hgr hj hpw HC HI HPW
                    go_wp2_with fail
                    go_meet
                    refine ⟨{ m with off := n }, r1, HST3.out, HMK.out, HJ.out.set HRM.out (Nat.le_of_eq HM.out.symm) (i := 9) (v := .int .i64 n) rfl ⟨HJ.out.own.row, HJ.out.own.len, HJ.out.own.ents, HJ.out.own.data, HJ.out.own.cv, HJ.out.own.cl⟩, ?_⟩
                    exact ((Touch.set z1 M 9 (.int .i64 n) (by simp : M ∈ [M])).block P (Array.getElem?_eq_some_iff.1 HPZ.out).1 (by have := HPM.out; simp; omega)).trans HPZ.out
              case rest =>
              obtain ⟨m, r, HS0, HMK, HI, HPW⟩ := hcut
              obtain ⟨z0, hz0⟩ : ∃ z, z = wc := ⟨_, rfl⟩
              rw [← hz0] at HI HPW ⊢
              clear hz0 wc
              obtain ⟨_, _, _, _, _, _, q6, _, _⟩ := nine_cells HPW.out
              go_upto_if 94 with fail
              go_cut [] from 11 to 97 (fun wx => ∃ (m : Ms) (r : List UInt8), Hid (RES = stLast m.plain r) ∧ Hid (m.kind = kind) ∧ Hid (RdI w R M r wx m) ∧ Hid (wx.heap[P]? = some (.cells p.cs 59 (0, 0))))
              case first =>
                have hst := HS0.out
                rw [stData, HPK.out m HMK.out] at hst
                cases hb : p.data with
                | false =>
                  rw [hb] at hst q6
                  have HS1 : Hid (RES = stLast m.plain r) := hst
                  clear hb hst
                  go_wp2_with fail
                  go_meet
                  exact ⟨m, r, HS1.out, HMK.out, HI.out, HPW.out⟩
                | true =>
                  rw [hb, if_pos rfl] at hst
                  rw [hb] at q6
                  have HS1 := Lib.hid hst
                  clear hb hst
                  have hc := bytes_any R r z0 HI.out.rd
                  cases hg : getBytes r with
                  | none =>
                    rw [hg] at hc
                    have hno : RES = none := by rw [HS1.out, hg]
                    have HC := Lib.hid hc
                    have HNN := Lib.hid hno
                    clear hc hg hno
                    go_wp2_with fail
                    refine HC.out.mono ?_
                    intro e w' hp
                    obtain ⟨rfl, hgr⟩ := hp.no rfl
                    simp only [Wrong]
                    go_wp2
                    exact ⟨rfl, HNO.out _ HNN.out (HI.out.touch.trans (Touch.of_grown hgr (by simp)))⟩
                  | some pr =>
                    obtain ⟨b, r1⟩ := pr
                    rw [hg] at hc
                    have hst : RES = stLast { m.plain with d := b } r1 := by rw [HS1.out, hg]
                    have HC := Lib.hid hc
                    have HST3 := Lib.hid hst
                    clear hc hst hg HS1
                    go_wp2_with fail
                    refine HC.out.mono ?_
                    intro e z1 hp
                    obtain ⟨_, rfl, ⟨ao, nn, cc, rfl, hown⟩, hrd, hgr⟩ := hp.ok rfl
                    have HOW := Lib.hid (hown.more (Nat.succ_le_of_lt HI.out.lt))
                    clear hown
                    have hj := HI.out.step HRM.out hgr hrd
                    have hpw : z1.heap[P]? = some (.cells p.cs 59 (0, 0)) := (hgr.block P (Array.getElem?_eq_some_iff.1 HPW.out).1 (fun e => by have := HPM.out; have := HRM.out; injection e; omega)).trans HPW.out
                    obtain ⟨_, _, _, _, _, _, _, _, _, _, b10, _, _, _⟩ := ms_cells hj.cell
                    have hfr := hj.free 10
                    have HJ := Lib.hid hj
                    have HPZ := Lib.hid hpw
                    clear hp hrd hgr hj hpw HC HI HPW
                    go_wp2_with fail
                    go_meet
                    refine ⟨{ m with d := ⟨ao, nn, cc, b⟩ }, r1, HST3.out, HMK.out, HJ.out.set HRM.out (Nat.le_of_eq HM.out.symm) (i := 10) (v := .slice ao nn cc) rfl ⟨HJ.out.own.row, HJ.out.own.len, HJ.out.own.ents, HOW.out, HJ.out.own.cv, HJ.out.own.cl⟩, ?_⟩
                    exact ((Touch.set z1 M 10 (.slice ao nn cc) (by simp : M ∈ [M])).block P (Array.getElem?_eq_some_iff.1 HPZ.out).1 (by have := HPM.out; simp; omega)).trans HPZ.out
              case rest =>
              obtain ⟨m, r, HS0, HMK, HI, HPW⟩ := hcut
              obtain ⟨z0, hz0⟩ : ∃ z, z = wc := ⟨_, rfl⟩
              rw [← hz0] at HI HPW ⊢
              clear hz0 wc
              obtain ⟨_, _, _, _, _, _, _, q7, _⟩ := nine_cells HPW.out
              go_upto_if 99 with fail
              go_cut [] from 11 to 102 (fun wx => ∃ (m : Ms) (r : List UInt8), Hid (RES = stConf m.plain r) ∧ Hid (m.kind = kind) ∧ Hid (RdI w R M r wx m) ∧ Hid (wx.heap[P]? = some (.cells p.cs 59 (0, 0))))
              case first =>
                have hst := HS0.out
                rw [stLast, HPK.out m HMK.out] at hst
                cases hb : p.last with
                | false =>
                  rw [hb] at hst q7
                  have HS1 : Hid (RES = stConf m.plain r) := hst
                  clear hb hst
                  go_wp2_with fail
                  go_meet
                  exact ⟨m, r, HS1.out, HMK.out, HI.out, HPW.out⟩
                | true =>
                  rw [hb, if_pos rfl] at hst
                  rw [hb] at q7
                  have HS1 := Lib.hid hst
                  clear hb hst
                  have hc := flag_any R r z0 HI.out.rd
                  cases hg : getFlag r with
                  | none =>
                    rw [hg] at hc
                    have hno : RES = none := by rw [HS1.out, hg]
                    have HC := Lib.hid hc
                    have HNN := Lib.hid hno
                    clear hc hg hno
                    go_wp2_with fail
                    refine HC.out.mono ?_
                    intro e w' hp
                    obtain ⟨rfl, hgr⟩ := hp.no rfl
                    simp only [Wrong]
                    go_wp2
                    exact ⟨rfl, HNO.out _ HNN.out (HI.out.touch.trans (Touch.of_grown hgr (by simp)))⟩
                  | some pr =>
                    obtain ⟨b, r1⟩ := pr
                    rw [hg] at hc
                    have hst : RES = stConf { m.plain with last := b } r1 := by rw [HS1.out, hg]
                    have HC := Lib.hid hc
                    have HST3 := Lib.hid hst
                    clear hc hst hg HS1
                    go_wp2_with fail
                    refine HC.out.mono ?_
                    intro e z1 hp
                    obtain ⟨rfl, hrd, hgr⟩ := hp.ok rfl
                    simp only [boolv]
                    have hj := HI.out.step HRM.out hgr hrd
                    have hpw : z1.heap[P]? = some (.cells p.cs 59 (0, 0)) := (hgr.block P (Array.getElem?_eq_some_iff.1 HPW.out).1 (fun e => by have := HPM.out; have := HRM.out; injection e; omega)).trans HPW.out
                    obtain ⟨_, _, _, _, _, _, _, _, _, _, _, b11, _, _⟩ := ms_cells hj.cell
                    have hfr := hj.free 11
                    have HJ := Lib.hid hj
                    have HPZ := Lib.hid hpw
                    clear hp hrd hgr hj hpw HC HI HPW
                    go_wp2_with fail
                    go_meet
                    refine ⟨{ m with last := b }, r1, HST3.out, HMK.out, HJ.out.set HRM.out (Nat.le_of_eq HM.out.symm) (i := 11) (v := .bool b) rfl ⟨HJ.out.own.row, HJ.out.own.len, HJ.out.own.ents, HJ.out.own.data, HJ.out.own.cv, HJ.out.own.cl⟩, ?_⟩
                    exact ((Touch.set z1 M 11 (.bool b) (by simp : M ∈ [M])).block P (Array.getElem?_eq_some_iff.1 HPZ.out).1 (by have := HPM.out; simp; omega)).trans HPZ.out
              case rest =>
              obtain ⟨m, r, HS0, HMK, HI, HPW⟩ := hcut
              obtain ⟨z0, hz0⟩ : ∃ z, z = wc := ⟨_, rfl⟩
              rw [← hz0] at HI HPW ⊢
              clear hz0 wc
              obtain ⟨_, _, _, _, _, _, _, _, q8⟩ := nine_cells HPW.out
              go_upto_if 104 with fail
              go_cut [] from 11 to 116 (fun wx => ∃ (m : Ms) (r : List UInt8), Hid (RES = some (m.plain, r)) ∧ Hid (RdI w R M r wx m))
              case first =>
                have hst := HS0.out
                rw [stConf, HPK.out m HMK.out] at hst
                cases hb : p.conf with
                | false =>
                  rw [hb] at hst q8
                  have HS1 : Hid (RES = some (m.plain, r)) := hst
                  clear hb hst
                  go_wp2_with fail
                  go_meet
                  exact ⟨m, r, HS1.out, HI.out⟩
                | true =>
                  rw [hb, if_pos rfl] at hst
                  rw [hb] at q8
                  have HS1 := Lib.hid hst
                  clear hb hst
                  have hc := bytes_any R r z0 HI.out.rd
                  cases hg : getBytes r with
                  | none =>
                    rw [hg] at hc
                    have hno : RES = none := by rw [HS1.out, hg]
                    have HC := Lib.hid hc
                    have HNN := Lib.hid hno
                    clear hc hg hno
                    go_wp2_with fail
                    refine HC.out.mono ?_
                    intro e w' hp
                    obtain ⟨rfl, hgr⟩ := hp.no rfl
                    simp only [Wrong]
                    go_wp2
                    exact ⟨rfl, HNO.out _ HNN.out (HI.out.touch.trans (Touch.of_grown hgr (by simp)))⟩
                  | some pr =>
                    obtain ⟨b, r1⟩ := pr
                    rw [hg] at hc
                    have hst := HS1.out
                    rw [hg] at hst
                    simp only at hst
                    have HC := Lib.hid hc
                    have HS2 := Lib.hid hst
                    clear hc hst hg HS1
                    go_wp2_with fail
                    refine HC.out.mono ?_
                    intro e z1 hp
                    obtain ⟨_, rfl, ⟨bo, bn, bc, rfl, hown⟩, hrd, hgr⟩ := hp.ok rfl
                    have HJ := Lib.hid (HI.out.step HRM.out hgr hrd)
                    have hl := load_any bo bn bc b z1 hown.row hown.cap.1 hown.cap.2 hown.nocap
                    have HL := Lib.hid hl
                    clear hp hrd hgr hown hl HC HPW
                    go_wp2_with fail
                    refine HL.out.mono ?_
                    rintro e z2 ⟨v, rfl, hrc⟩
                    obtain ⟨cf, hev, hsay, hcv, hcl, hb2⟩ := hrc
                    injection hev with hev
                    subst hev
                    have HJ2 := Lib.hid (HJ.out.below hb2)
                    have HCV := Lib.hid (own_more hcv (Nat.succ_le_of_lt HJ.out.lt))
                    have HCL := Lib.hid (own_more hcl (Nat.succ_le_of_lt HJ.out.lt))
                    clear hcv hcl hb2 HL
                    cases hlo : loadOf b with
                    | none =>
                      have hno : RES = none := by rw [HS2.out, hlo]
                      have HNN := Lib.hid hno
                      clear hlo hno
                      simp only [if_true]
                      go_wp2_with fail
                      refine (fail_any R 30 _).mono ?_
                      rintro e w'' ⟨rfl, rfl⟩
                      simp only [Wrong]
                      go_wp2
                      exact ⟨rfl, HNO.out _ HNN.out (HJ2.out.below (below_alloc (Below.refl _ _) _)).touch⟩
                    | some q =>
                      obtain ⟨vv, ll⟩ := q
                      rw [hlo] at hsay
                      have hst := HS2.out
                      rw [hlo] at hst
                      simp only at hst
                      have hs2 : cf.says = (vv, ll) := hsay
                      have hs1 : RES = some (({ m with c := cf } : Ms).plain, r1) := by
                        rw [hst]
                        injection hs2 with h1 h2
                        rw [← h1, ← h2]
                        rfl
                      have HS3 := Lib.hid hs1
                      have hc0 : (if (some (vv, ll) : Option (List Int × List Int)) = none then (30 : Int) else 0) = 0 := if_neg (by simp)
                      rw [hc0]
                      obtain ⟨z3, hz3⟩ : ∃ z, z = z2.alloc (.cells #[.slice cf.v.a cf.v.len cf.v.cap, .slice cf.l.a cf.l.len cf.l.cap] 26) := ⟨_, rfl⟩
                      have hb3 : Below z2.heap.size z2 z3 := hz3 ▸ below_alloc (Below.refl _ _) _
                      have hj3 := HJ2.out.below hb3
                      have hcv3 : OwnZ z3 (M + 1) cf.v := own_keep HCV.out fun g _ hl => hb3.block g hl
                      have hcl3 : OwnZ z3 (M + 1) cf.l := own_keep HCL.out fun g _ hl => hb3.block g hl
                      have hcc := pair_cells (show z3.heap[z2.heap.size]? = some (.cells #[.slice cf.v.a cf.v.len cf.v.cap, .slice cf.l.a cf.l.len cf.l.cap] 26 (0, 0)) from hz3 ▸ heap_alloc_new z2 _)
                      obtain ⟨u0, u1⟩ := hcc
                      obtain ⟨_, _, _, _, _, _, _, _, _, _, _, _, b12, b13⟩ := ms_cells hj3.cell
                      have f12 := hj3.free 12
                      have f13 := hj3.free 13
                      have HJ3 := Lib.hid hj3
                      have HCV3 := Lib.hid hcv3
                      have HCL3 := Lib.hid hcl3
                      have HZ3 := Lib.hid hz3
                      rw [hz3] at u0 u1 b12 b13 f12 f13
                      clear hlo hst hs2 hs1 hc0 hz3 hb3 hj3 hcv3 hcl3 HS2 HJ HJ2 HCV HCL HI hsay
                      go_wp2_with fail
                      rw [← HZ3.out]
                      go_meet
                      refine ⟨{ m with c := cf }, r1, HS3.out, ?_⟩
                      have hown1 : MOwn z3 (M + 1) { m with c := ⟨cf.v, m.c.l⟩ } := ⟨HJ3.out.own.row, HJ3.out.own.len, HJ3.out.own.ents, HJ3.out.own.data, HCV3.out, HJ3.out.own.cl⟩
                      have hown2 : MOwn z3 (M + 1) { m with c := cf } := ⟨HJ3.out.own.row, HJ3.out.own.len, HJ3.out.own.ents, HJ3.out.own.data, HCV3.out, HCL3.out⟩
                      exact (HJ3.out.set HRM.out (Nat.le_of_eq HM.out.symm) (i := 12) (v := .slice cf.v.a cf.v.len cf.v.cap) (m' := { m with c := ⟨cf.v, m.c.l⟩ }) rfl hown1).set HRM.out (Nat.le_of_eq HM.out.symm) (i := 13) (v := .slice cf.l.a cf.l.len cf.l.cap) (m' := { m with c := cf }) rfl
                        (hown2.keep fun g hg hl => (Touch.set z3 M 12 _ (by simp : M ∈ [M])).block g hl (by simp; omega))
              case rest =>
              obtain ⟨m, r, HS0, HI⟩ := hcut
              obtain ⟨z0, hz0⟩ : ∃ z, z = wc := ⟨_, rfl⟩
              rw [← hz0] at HI ⊢
              clear hz0 wc
              obtain ⟨b0, b1, b2, b3, b4, b5, b6, b7, b8, b9, b10, b11, b12, b13⟩ := ms_cells HI.out.cell
              have f0 := HI.out.free 0
              have f1 := HI.out.free 1
              have f2 := HI.out.free 2
              have f3 := HI.out.free 3
              have f4 := HI.out.free 4
              have f5 := HI.out.free 5
              have f6 := HI.out.free 6
              have f7 := HI.out.free 7
              have f8 := HI.out.free 8
              have f9 := HI.out.free 9
              have f10 := HI.out.free 10
              have f11 := HI.out.free 11
              have f12 := HI.out.free 12
              have f13 := HI.out.free 13
              go_wp2_with fail
              have hf := ((((((((((((((HI.out.reset HRM.out (Nat.le_of_eq HM.out.symm) 0 _ rfl).reset HRM.out (Nat.le_of_eq HM.out.symm) 1 _ rfl).reset HRM.out (Nat.le_of_eq HM.out.symm) 2 _ rfl).reset HRM.out (Nat.le_of_eq HM.out.symm) 3 _ rfl).reset HRM.out (Nat.le_of_eq HM.out.symm) 4 _ rfl).reset HRM.out (Nat.le_of_eq HM.out.symm) 5 _ rfl).reset HRM.out (Nat.le_of_eq HM.out.symm) 6 _ rfl).reset HRM.out (Nat.le_of_eq HM.out.symm) 7 _ rfl).reset HRM.out (Nat.le_of_eq HM.out.symm) 8 _ rfl).reset HRM.out (Nat.le_of_eq HM.out.symm) 9 _ rfl).reset HRM.out (Nat.le_of_eq HM.out.symm) 10 _ rfl).reset HRM.out (Nat.le_of_eq HM.out.symm) 11 _ rfl).reset HRM.out (Nat.le_of_eq HM.out.symm) 12 _ rfl).reset HRM.out (Nat.le_of_eq HM.out.symm) 13 _ rfl)
              refine bodyPost_ret (results_cell Try.results46 rfl (load_msg hf.cell)) rfl ?_
              rw [HPOST.out]
              refine ⟨hf.touch, fun x r' hx => ?_, fun h => ?_⟩
              · rw [HS0.out] at hx
                injection hx with hx
                injection hx with h1 h2
                subst h1 h2
                exact ⟨m, rfl, rfl, hf.own.more (by have := HM.out; omega), hf.rd⟩
              · rw [HS0.out] at h; cases h
end Go.Proofs.Ytcejamblndilbaa
