/- The document's Do: what all its branches share. -/
import Derived.Test.YtnjbhjgihcgefaaRefList
import Derived.Test.YtnjbhjgihcgefaaJoin
namespace Go.Proofs.Ytnjbhjgihcgefaa
open Go.RowKit

theorem results_cells_tmp {fn : Func} {p r q : Tmp} {ty ty' : TypeId} (h : fn.results = #[.cell p ty, .cell r ty', .tmp q]) {tmps : Array Value} {P : Program} {w : World} {a b : Addr} {v u : Value} (ha : tmps.getD p undef = .pointer (some a)) (hl : (loadVar ty a).run P w = .ok v w) (hb : tmps.getD r undef = .pointer (some b)) (hm : (loadVar ty' b).run P w = .ok u w) :
    (results fn tmps).run P w = .ok (.tuple #[v, u, tmps.getD q undef]) w := by
  have h1 : (asAddr (tmps.getD p undef)).run P w = .ok a w := by rw [ha]; rfl
  have h2 : (asAddr (tmps.getD r undef)).run P w = .ok b w := by rw [hb]; rfl
  have e : (results fn tmps).run P w = ((asAddr (tmps.getD p undef)).run P w).andThen fun a w₁ => ((loadVar ty a).run P w₁).andThen fun v w₂ => ((asAddr (tmps.getD r undef)).run P w₂).andThen fun b w₃ => ((loadVar ty' b).run P w₃).andThen fun u w₄ => .ok (.tuple #[v, u, tmps.getD q undef]) w₄ := by
    simp only [results, h]
    simp [Sem.run_bind, Result.andThen]
  rw [e, h1]
  simp only [Result.andThen_ok, hl, h2, hm]

theorem Row8.touch {S : List Nat} {w w' : World} {a : Option Addr} {len : Nat} {bs : List UInt8} (h : Row8 w a len bs) (ht : Touch S w w') (hd : ∀ b off, a = some ⟨b, off, none⟩ → 0 < len → b ∉ S) : Row8 w' a len bs := by
  refine ⟨h.1, fun i hi => ?_⟩
  obtain ⟨b, off, ha, hc⟩ := h.2 i hi
  refine ⟨b, off, ha, ?_⟩
  rw [World.cell?_of_block (ht.block b (World.block_lt_of_cell? w _ hc) (hd b off ha (by omega)))]
  exact hc
theorem Row8.lt {w : World} {a : Option Addr} {len : Nat} {bs : List UInt8} (h : Row8 w a len bs) (b off : Nat) (e : a = some ⟨b, off, none⟩) (hl : 0 < len) : b < w.heap.size := by
  obtain ⟨b', off', ha, hc⟩ := h.2 0 hl
  rw [e] at ha
  injection ha with ha
  injection ha with h1 _ _
  subst h1
  exact World.block_lt_of_cell? w _ hc
theorem RefAt.touch {w w' : World} {P : Nat → Prop} {us : List L3} {a : Option Addr} {n : Nat} {S : List Nat} (h : RefAt w P us a n) (ht : Touch S w w') (hS : ∀ b, P b → b ∉ S) : RefAt w' P us a n :=
  ⟨h.len, h.row.touch ht fun b off e hn => hS b (h.far b off e (by omega)), fun u hu => ⟨⟨(h.ok u hu).1.1.touch ht fun b off e hn => hS b ((h.ok u hu).2 b off e hn), (h.ok u hu).1.2⟩, (h.ok u hu).2⟩, h.far⟩
theorem RefAt.mono {w : World} {P Q : Nat → Prop} {us : List L3} {a : Option Addr} {n : Nat} (h : RefAt w P us a n) (hPQ : ∀ b, P b → Q b) : RefAt w Q us a n :=
  ⟨h.len, h.row, fun u hu => ⟨(h.ok u hu).1, fun b off e hn => hPQ b ((h.ok u hu).2 b off e hn)⟩, fun b off e hn => hPQ b (h.far b off e hn)⟩
/-- P, and not in the blocks that the call boxes its arguments in -/
def Apart (P : Nat → Prop) (B C : Nat) (b : Nat) : Prop := P b ∧ (b < B ∨ C ≤ b)
theorem SlP.apart {w : World} {P : Nat → Prop} {s : Sl} (h : Sl.ok w s) (hp : SlP P s) (C : Nat) : SlP (Apart P w.heap.size C) s := fun b off e hn => ⟨hp b off e hn, .inl (h.1.lt b off e hn)⟩
theorem RefAt.apart {w : World} {P : Nat → Prop} {us : List L3} {a : Option Addr} {n : Nat} (h : RefAt w P us a n) (C : Nat) : RefAt w (Apart P w.heap.size C) us a n :=
  ⟨h.len, h.row, fun u hu => ⟨(h.ok u hu).1, SlP.apart (h.ok u hu).1 (h.ok u hu).2 C⟩, fun b off e hn => ⟨h.far b off e hn, .inl (by
    obtain ⟨b', off', ha, hc⟩ := h.row.2 (by omega)
    rw [e] at ha
    injection ha with ha
    injection ha with h1 _ _
    subst h1
    obtain ⟨v, hv⟩ : ∃ v, (us.flatMap L3.cells)[0]? = some v := ⟨_, List.getElem?_eq_getElem (by have := h.row.1; omega)⟩
    exact World.block_lt_of_cell? w _ (hc 0 v hv))⟩⟩
theorem Sl.ok.touch {w w' : World} {P : Nat → Prop} {s : Sl} {S : List Nat} (h : Sl.ok w s) (hp : SlP P s) (ht : Touch S w w') (hS : ∀ b, P b → b ∉ S) : Sl.ok w' s := ⟨h.1.touch ht fun b off e hn => hS b (hp b off e hn), h.2⟩

/-- What Do returns, told by what it says. -/
def RefDo (w : World) (P : Nat → Prop) (most : Int) (r : List Says × Bool × Says) (e : Ending) (w' : World) : Prop :=
  ∃ us' a' n' c' s, e = .returned (.tuple #[.agg #[.int .i64 most, .slice a' n' c'], .agg #[.int .i64 r.2.2.1, .int .i64 r.2.2.2.1, .slice s.a s.len s.cap], .bool r.2.1]) ∧ us'.map L3.says = r.1 ∧ RefAt w' P us' a' n' ∧ Sl.ok w' s ∧ s.bs = r.2.2.2.2 ∧ Below w.heap.size w w' ∧ SlP P s
theorem RefDo.mk {w w' : World} {P : Nat → Prop} {most : Int} {r : List Says × Bool × Says} {e : Ending} {us' : List L3} {a' : Option Addr} {n' c' : Nat} {s : Sl} {f t : Int} {ok : Bool} {xs : List Says} (hr : r = (xs, ok, f, t, s.bs)) (he : e = .returned (.tuple #[.agg #[.int .i64 most, .slice a' n' c'], .agg #[.int .i64 f, .int .i64 t, .slice s.a s.len s.cap], .bool ok]))
    (hs : us'.map L3.says = xs) (hR : RefAt w' P us' a' n') (hs' : Sl.ok w' s) (hb : Below w.heap.size w w') (hsp : SlP P s := by intro _ _ e; cases e) : RefDo w P most r e w' := by
  subst hr
  exact ⟨us', a', n', c', s, he, hs, hR, hs', rfl, hb, hsp⟩
theorem Sl.nil_ok (w : World) : Sl.ok w ⟨none, 0, 0, []⟩ := ⟨Row8.nil _ _, Nat.le_refl _, Nat.zero_le _, fun _ => rfl⟩

/-- the four boxes that Do lays out -/
def doBox (w : World) (most : Int) (a : Option Addr) (n c : Nat) (o : OpL) : World :=
  (((w.alloc (.cells #[.int .i64 most, .slice a n c] 40)).alloc (.cells #[.int .i64 o.kd, .int .i64 o.i, .int .i64 o.k, .int .i64 o.f, .int .i64 o.t, .slice o.s.a o.s.len o.s.cap] 50)).alloc (.cells #[.int .i64 0, .slice none 0 0] 40)).alloc (.cells #[.int .i64 0, .int .i64 0, .slice none 0 0] 45)
theorem four_size (w : World) (A B C D : Obj) : ((((w.alloc A).alloc B).alloc C).alloc D).heap.size = w.heap.size + 4 := by simp
theorem four_below (w : World) (A B C D : Obj) : Below w.heap.size w ((((w.alloc A).alloc B).alloc C).alloc D) := ((((Below.refl _ _).alloc (Nat.le_refl _) _).alloc (by simp) _).alloc (by simp; omega) _).alloc (by simp; omega) _
theorem four_a (w : World) (A B C D : Obj) : ((((w.alloc A).alloc B).alloc C).alloc D).heap[w.heap.size]? = some A :=
  (heap_alloc_old _ _ (by simp; omega)).trans ((heap_alloc_old _ _ (by simp; omega)).trans ((heap_alloc_old _ _ (by simp)).trans (heap_alloc_new w _)))
theorem four_b (w : World) (A B C D : Obj) : ((((w.alloc A).alloc B).alloc C).alloc D).heap[w.heap.size + 1]? = some B := by
  have h := heap_alloc_new (w.alloc A) B
  rw [World.size_alloc] at h
  exact (heap_alloc_old _ _ (by simp)).trans ((heap_alloc_old _ _ (by simp)).trans h)
theorem four_c (w : World) (A B C D : Obj) : ((((w.alloc A).alloc B).alloc C).alloc D).heap[w.heap.size + 2]? = some C := by
  have h := heap_alloc_new ((w.alloc A).alloc B) C
  rw [World.size_alloc, World.size_alloc] at h
  exact (heap_alloc_old _ _ (by simp)).trans h
theorem four_d (w : World) (A B C D : Obj) : ((((w.alloc A).alloc B).alloc C).alloc D).heap[w.heap.size + 3]? = some D := by
  have h := heap_alloc_new (((w.alloc A).alloc B).alloc C) D
  rw [World.size_alloc, World.size_alloc, World.size_alloc] at h
  exact h

set_option maxRecDepth 100000 in
set_option maxHeartbeats 3200000 in
/-- a Send that finds no room -/
theorem rdo_full (P : Nat → Prop) (us : List L3) (most : Int) (a : Option Addr) (n c : Nat) (o : OpL) (w : World) (h : RefAt w P us a n) (hkd : o.kd = 1) (hm : most ≤ (n : Int)) :
    Calls Try.prog 15 #[.agg #[.int .i64 most, .slice a n c], .agg #[.int .i64 o.kd, .int .i64 o.i, .int .i64 o.k, .int .i64 o.f, .int .i64 o.t, .slice o.s.a o.s.len o.s.cap]] w (RefDo w P most (us.map L3.says, false, zSays)) := by
  obtain ⟨kd, oi, ok, of, ot, os⟩ := o
  simp only at hkd ⊢
  subst hkd
  have hm' : (n : Int) ≥ most := hm
  have H := Lib.hid h
  clear h
  go_enter Try.func15, Try.ntmps15
  go_wp2_with fail
  exact bodyPost_ret (results_cells_tmp Try.results15 rfl (load_two_ref (four_c w _ _ _ _)) rfl (load_three_ref (four_d w _ _ _ _))) rfl (RefDo.mk (s := ⟨none, 0, 0, []⟩) rfl rfl rfl (H.out.below (four_below _ _ _ _ _)) (Sl.nil_ok _) (four_below _ _ _ _ _))
end Go.Proofs.Ytnjbhjgihcgefaa
