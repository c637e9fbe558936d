/- sub.Encode. -/
import Derived.Test.YtpknmfmpiachkaaGreatMput
import Derived.Test.YtpknmfmpiachkaaGreatSer3
import Derived.Deep.LoopGhost
namespace Go.Proofs.YtpknmfmpiachkaaGreat
open Go.RowKit
def VsAt (w : World) (V : Nat) (vs : List Vl) (row : Option Nat) : Prop := ∃ ao cap, w.heap[V]? = some (.cells #[.slice ao vs.length cap] 95 (0, 0)) ∧ w.ownsRow (V + 1) 97 5 (.slice ao vs.length cap) vs.length (vs.flatMap Vl.cells) ∧ row = Value.ownBlock (.slice ao vs.length cap)
def VsPost (w : World) (V : Nat) (vs : List Vl) (row : Option Nat) (e : Ending) (w' : World) : Prop :=
 e = .returned (.tuple #[]) ∧ ∃ row', VsAt w' V vs row' ∧ (row' = row ∨ row' = some w.heap.size ∨ row' = some (w.heap.size + 1)) ∧ Touch (V :: row.toList) w w'
theorem vcells {w : World} {B : Nat} {T : TypeId} {c0 : Value} (h : w.heap[B]? = some (.cells #[c0] T (0, 0))) : w.cell? ⟨B, 0, none⟩ = some c0 ∧ w.frozen? ⟨B, 0, none⟩ = false := by
 refine ⟨?_, ?_⟩
 · simp [World.cell?, h]
 · simp [World.frozen?, h]
theorem vs_end {w wX w1 : World} {V : Nat} {vs vs' : List Vl} {ao ao' : Option Addr} {cap cap' : Nat} {o : Obj} {row : Option Nat} (hr : row = Value.ownBlock (.slice ao vs.length cap))
 (hX : wX = w.alloc o) (hV : w.heap[V]? = some (.cells #[.slice ao vs.length cap] 95 (0, 0))) (hlt : ∀ g, row = some g → V < g)
 (ho : w1.ownsRow (V + 1) 97 5 (.slice ao' vs'.length cap') vs'.length (vs'.flatMap Vl.cells)) (hg : wX.grownBy w1 (Value.ownBlock (.slice ao vs.length cap)))
 (hat : Value.ownBlock (.slice ao' vs'.length cap') = Value.ownBlock (.slice ao vs.length cap) ∨ Value.ownBlock (.slice ao' vs'.length cap') = some wX.heap.size) :
 VsPost w V vs' row (.returned (.tuple #[])) (w1.setCell ⟨V, 0, none⟩ (.slice ao' vs'.length cap')) := by
 subst hX
 have hVs : V < w.heap.size := (Array.getElem?_eq_some_iff.1 hV).1
 have hV1 : w1.heap[V]? = some (.cells #[.slice ao vs.length cap] 95 (0, 0)) := by
  rw [hg.block V (by rw [World.size_alloc]; omega) (by rw [← hr]; intro h; have := hlt V h.symm; omega)]
  exact (heap_alloc_old _ _ hVs).trans hV
 refine ⟨rfl, _, ⟨ao', cap', set_block (i := 0) hV1 _, ?_, rfl⟩, ?_, ?_⟩
 · exact own_keep ho fun g hgg hl => (Touch.set (S := [V]) w1 V 0 _ (by simp)).block g hl (by have := (ho.lt g hgg).1; simp; omega)
 · rcases hat with h | h
   · exact .inl (h.trans hr.symm)
   · exact .inr (.inr (by rw [h, World.size_alloc]))
 · refine touch_set ?_ _ _ _ (by simp)
   refine (Touch.alloc _ w o).trans ?_
   rw [← hr] at hg
   refine ⟨hg.os, hg.tape, hg.output, hg.size, fun k hk hn => hg.block k hk (fun h => hn ?_)⟩
   subst h
   simp
def numV (n : Int) : Vl := ⟨1, n, 0, ⟨none, 0, 0, []⟩, false⟩
def EncI (W0 : World) (V : Nat) (w : World) (vs : List Vl) (row : Option Nat) : Prop := VsAt w V vs row ∧ Below V W0 w
theorem VsAt.row_lt {w : World} {V : Nat} {vs : List Vl} {row : Option Nat} (h : VsAt w V vs row) : ∀ g, row = some g → V < g ∧ g < w.heap.size := by
 obtain ⟨ao, cap, hV, ho, hr⟩ := h
 exact fun g hg => ⟨by have := (ho.lt g (hr ▸ hg)).1; omega, (ho.lt g (hr ▸ hg)).2⟩
theorem VsAt.lt {w : World} {V : Nat} {vs : List Vl} {row : Option Nat} (h : VsAt w V vs row) : V < w.heap.size := by
 obtain ⟨ao, cap, hV, ho, hr⟩ := h
 exact (Array.getElem?_eq_some_iff.1 hV).1
theorem EncI.next {W0 w w' : World} {V : Nat} {vs vs' : List Vl} {row : Option Nat} {e : Ending} (h : EncI W0 V w vs row) (hp : VsPost w V vs' row e w') :
 e = .returned (.tuple #[]) ∧ ∃ row', EncI W0 V w' vs' row' ∧ (∀ g, row' = some g → row = some g ∨ w.heap.size ≤ g) ∧ Touch (V :: row.toList) w w' := by
 obtain ⟨he, row', hv, hrw, ht⟩ := hp
 refine ⟨he, row', ⟨hv, ht.below h.2 (Nat.le_of_lt h.1.lt) (fun k hk => ?_)⟩, fun g hg => ?_, ht⟩
 · rcases List.mem_cons.1 hk with rfl | hk
   · exact Nat.le_refl _
   · exact Nat.le_of_lt (h.1.row_lt k (by simpa using hk)).1
 · rcases hrw with h1 | h1 | h1
   · exact .inl (h1 ▸ hg)
   · rw [h1] at hg; exact .inr (by injection hg; omega)
   · rw [h1] at hg; exact .inr (by injection hg; omega)
theorem VsAt.below {w w' : World} {V : Nat} {vs : List Vl} {row : Option Nat} (h : VsAt w V vs row) (hb : Below w.heap.size w w') : VsAt w' V vs row := by
 obtain ⟨ao, cap, hV, ho, hr⟩ := h
 exact ⟨ao, cap, (hb.block _ (Array.getElem?_eq_some_iff.1 hV).1).trans hV, own_keep ho (fun g _ hl => hb.block g hl), hr⟩
theorem EncI.below {W0 w w' : World} {V : Nat} {vs : List Vl} {row : Option Nat} (h : EncI W0 V w vs row) (hb : Below w.heap.size w w') : EncI W0 V w' vs row :=
 ⟨h.1.below hb, h.2.trans (hb.mono (Nat.le_of_lt h.1.lt))⟩
theorem putAll_all : ∀ (vs : List Vl) (acc : List UInt8), (∀ v ∈ vs, v.err = 0) → putAll vs acc = (acc ++ vs.flatMap Vl.bytes, 0)
 | [], acc, _ => by simp [putAll]
 | v :: r, acc, h => by
   rw [putAll_ok (h v (List.mem_cons_self ..)), putAll_all r _ fun x hx => h x (List.mem_cons_of_mem _ hx), List.flatMap_cons, List.append_assoc]
theorem keepE {w w' : World} {V E : Nat} {row : Option Nat} (ht : Touch (V :: row.toList) w w') (hE : E < w.heap.size) (hV : V < E) (hr : row ≠ some E) : w'.heap[E]? = w.heap[E]? :=
 ht.block E hE (fun h => by
  rcases List.mem_cons.1 h with h | h
  · omega
  · exact hr (by simpa using h))
def keyV (x : Nat) : Vl := ⟨2, 0, x, ⟨none, 0, 0, []⟩, false⟩
set_option maxRecDepth 100000 in
set_option maxHeartbeats 3200000 in
theorem encN_any (x : Int) (V : Nat) (vs : List Vl) (row : Option Nat) (w : World) (h : VsAt w V vs row) (hn : vs.length ≤ 1000000) :
 Calls Tryz.prog 39 #[.int .i64 x, .pointer (some ⟨V, 0, none⟩)] w (VsPost w V (vs ++ [numV x]) row) := by
 obtain ⟨ao, cap, hV, ho, hr⟩ := h
 have hlt : ∀ g, row = some g → V < g := fun g hg => by have := (ho.lt g (hr ▸ hg)).1; omega
 have hVs : V < w.heap.size := (Array.getElem?_eq_some_iff.1 hV).1
 have hstf := @store_float
 obtain ⟨z0, f0⟩ := vcells hV
 have ho2 : ∀ o, (w.alloc o).ownsRow (V + 1) 97 5 (.slice ao vs.length cap) vs.length (vs.flatMap Vl.cells) := fun o => ho.alloc o
 have HO := Lib.hid ho2
 have hend := fun (ao' : Option Addr) (cap' : Nat) (o : Obj) (w1 : World) => vs_end (vs' := vs ++ [numV x]) (ao' := ao') (cap' := cap') (w1 := w1) hr (rfl : w.alloc o = w.alloc o) hV hlt
 have HEND := Lib.hid hend
 have hVa : ∀ o, (w.alloc o).heap[V]? = some (.cells #[.slice ao vs.length cap] 95 (0, 0)) := fun o => (heap_alloc_old _ _ hVs).trans hV
 have HVA := Lib.hid hVa
 have hne : ∀ g, Value.ownBlock (.slice ao vs.length cap) = some g → V < g := fun g hg => hlt g (hr.trans hg)
 have HNE := Lib.hid hne
 have HVS := Lib.hid hVs
 clear hend ho2 ho hr hV hlt hVa hne hVs
 go_enter Tryz.func39, Tryz.ntmps39
 go_wp2_with (at_builtin; refine wpList_appendVal rfl (.tmp 3) (.tmp 6) rfl (V + 1) ao vs.length cap (vs.flatMap Vl.cells) rfl (HO.out _) (some ⟨w.heap.size, 0, none⟩) 1 1 (Vl.cells (numV x)) rfl (RowN.of_block (heap_alloc_new w _) rfl rfl) (fun h => by cases h) (cells_one5 _) (by omega) (by rw [World.size_alloc]; exact Nat.le_succ_of_le HVS.out) (vs.length + 1) rfl ?_; intro ao' cap' w1 hown1 hg1 hat1; obtain ⟨z1, f1⟩ := vcells ((hg1.block V (by rw [World.size_alloc]; exact Nat.lt_succ_of_lt HVS.out) (fun h => absurd (HNE.out V h.symm) (Nat.lt_irrefl _))).trans (HVA.out _)); have HOW := Lib.hid hown1; have HG := Lib.hid hg1; have HAT := Lib.hid hat1; clear hown1 hg1 hat1)
 go_end0
 have hl : (vs ++ [numV x]).length = vs.length + 1 := by simp
 have he := fun o => HEND.out ao' cap' o w1
 simp only [hl, List.flatMap_append] at he
 exact he _ (by simpa using HOW.out) HG.out HAT.out
set_option maxRecDepth 100000 in
set_option maxHeartbeats 3200000 in
theorem encK_any (x : Nat) (V : Nat) (vs : List Vl) (row : Option Nat) (w : World) (h : VsAt w V vs row) (hn : vs.length ≤ 1000000) :
 Calls Tryz.prog 40 #[.float .f64 x, .pointer (some ⟨V, 0, none⟩)] w (VsPost w V (vs ++ [keyV x]) row) := by
 obtain ⟨ao, cap, hV, ho, hr⟩ := h
 have hlt : ∀ g, row = some g → V < g := fun g hg => by have := (ho.lt g (hr ▸ hg)).1; omega
 have hVs : V < w.heap.size := (Array.getElem?_eq_some_iff.1 hV).1
 have hstf := @store_float
 obtain ⟨z0, f0⟩ := vcells hV
 have ho2 : ∀ o, (w.alloc o).ownsRow (V + 1) 97 5 (.slice ao vs.length cap) vs.length (vs.flatMap Vl.cells) := fun o => ho.alloc o
 have HO := Lib.hid ho2
 have hend := fun (ao' : Option Addr) (cap' : Nat) (o : Obj) (w1 : World) => vs_end (vs' := vs ++ [keyV x]) (ao' := ao') (cap' := cap') (w1 := w1) hr (rfl : w.alloc o = w.alloc o) hV hlt
 have HEND := Lib.hid hend
 have hVa : ∀ o, (w.alloc o).heap[V]? = some (.cells #[.slice ao vs.length cap] 95 (0, 0)) := fun o => (heap_alloc_old _ _ hVs).trans hV
 have HVA := Lib.hid hVa
 have hne : ∀ g, Value.ownBlock (.slice ao vs.length cap) = some g → V < g := fun g hg => hlt g (hr.trans hg)
 have HNE := Lib.hid hne
 have HVS := Lib.hid hVs
 clear hend ho2 ho hr hV hlt hVa hne hVs
 go_enter Tryz.func40, Tryz.ntmps40
 go_wp2_with (at_builtin; refine wpList_appendVal rfl (.tmp 3) (.tmp 6) rfl (V + 1) ao vs.length cap (vs.flatMap Vl.cells) rfl (HO.out _) (some ⟨w.heap.size, 0, none⟩) 1 1 (Vl.cells (keyV x)) rfl (RowN.of_block (heap_alloc_new w _) rfl rfl) (fun h => by cases h) (cells_one5 _) (by omega) (by rw [World.size_alloc]; exact Nat.le_succ_of_le HVS.out) (vs.length + 1) rfl ?_; intro ao' cap' w1 hown1 hg1 hat1; obtain ⟨z1, f1⟩ := vcells ((hg1.block V (by rw [World.size_alloc]; exact Nat.lt_succ_of_lt HVS.out) (fun h => absurd (HNE.out V h.symm) (Nat.lt_irrefl _))).trans (HVA.out _)); have HOW := Lib.hid hown1; have HG := Lib.hid hg1; have HAT := Lib.hid hat1; clear hown1 hg1 hat1)
 go_end0
 have hl : (vs ++ [keyV x]).length = vs.length + 1 := by simp
 have he := fun o => HEND.out ao' cap' o w1
 simp only [hl, List.flatMap_append] at he
 exact he _ (by simpa using HOW.out) HG.out HAT.out
def headV (s : SubP) : List Vl := [numV s.session, numV s.seq, numV s.snap, numV (s.reads.length : Nat)]
def spanV (x : Spn) : List Vl := [keyV x.lo, keyV x.hi]
def subVals (s : SubP) : List Vl := headV s ++ s.reads.map keyV ++ [numV (s.spans.length : Nat)] ++ s.spans.flatMap spanV ++ [numV (s.writes.length : Nat)] ++ s.writes.map keyV
def subBytes (s : SubP) : List UInt8 := (subVals s).flatMap Vl.bytes
theorem spanV_len (l : List Spn) : (l.flatMap spanV).length = l.length * 2 := by
 induction l with
 | nil => rfl
 | cons x r ih => rw [List.flatMap_cons, List.length_append, ih, List.length_cons]; simp [spanV]; omega
theorem subVals_len (s : SubP) : (subVals s).length = 6 + s.reads.length + s.spans.length * 2 + s.writes.length := by
 simp only [subVals, List.length_append, List.length_map, spanV_len, headV, List.length_cons, List.length_nil]
 omega
theorem subVals_ok {s : SubP} (h : s.Right) (w : World) : ∀ v ∈ subVals s, Vl.ok w v ∧ v.err = 0 ∧ v.s.len = 0 := by
 have hN : ∀ n : Int, -9223372036854775808 ≤ n ∧ n ≤ 9223372036854775807 → Vl.ok w (numV n) ∧ (numV n).err = 0 ∧ (numV n).s.len = 0 := fun n hn => ⟨⟨⟨Row8.nil _ _, by simp [numV], by simp [numV, maxLen]⟩, by simp [numV], hn, by simp [numV]⟩, by simp [Vl.err, numV], rfl⟩
 have hK : ∀ x : Nat, x < 18446744073709551616 → Vl.ok w (keyV x) ∧ (keyV x).err = 0 ∧ (keyV x).s.len = 0 := fun x hx => ⟨⟨⟨Row8.nil _ _, by simp [keyV], by simp [keyV, maxLen]⟩, by simpa [keyV] using hx, by simp [keyV], by simp [keyV]⟩, by simp [Vl.err, keyV], rfl⟩
 intro v hv
 simp only [subVals, headV, List.mem_append, List.mem_cons, List.not_mem_nil, or_false, List.mem_map, List.mem_flatMap, spanV] at hv
 have h1 := h.session
 have h2 := h.seq
 have h3 := h.snap
 have h4 := h.lr
 have h5 := h.ls
 have h6 := h.lw
 rcases hv with ((((((rfl | rfl | rfl | rfl) | ⟨x, hx, rfl⟩) | rfl) | ⟨x, hx, rfl | rfl⟩) | rfl) | ⟨x, hx, rfl⟩)
 · exact hN _ (by omega)
 · exact hN _ (by omega)
 · exact hN _ (by omega)
 · exact hN _ (by omega)
 · exact hK _ (h.reads x hx).1
 · exact hN _ (by omega)
 · exact hK _ (h.spans x hx).ok.1
 · exact hK _ (h.spans x hx).ok.2
 · exact hN _ (by omega)
 · exact hK _ (h.writes x hx).1
theorem bulkV_zero : ∀ vs : List Vl, (∀ v ∈ vs, v.s.len = 0) → bulkV vs = vs.length
 | [], _ => rfl
 | v :: r, h => by
   rw [bulkV_cons, bulkV_zero r fun x hx => h x (List.mem_cons_of_mem _ hx), h v (List.mem_cons_self ..), List.length_cons]
   omega
set_option maxRecDepth 100000 in
set_option maxHeartbeats 3200000 in
theorem encode_no (m : SubM) (w : World) (hm : m.ok w) (h : checkP m.s ≠ 0) :
 Calls Tryz.prog 18 #[m.args] w fun e w' => e = .returned (.tuple #[.slice none 0 0, .int .i64 (checkP m.s)]) ∧ Below w.heap.size w w' := by
 obtain ⟨X, hX⟩ : ∃ X, X = w.alloc (.cells #[.int .i64 m.s.session, .int .i64 m.s.seq, .int .i64 m.s.snap, .slice m.ra m.s.reads.length m.rc, .slice m.sa m.s.spans.length m.sc, .slice m.wa m.s.writes.length m.wc] 26) := ⟨_, rfl⟩
 have hXb : Below w.heap.size w X := hX ▸ below_alloc (Below.refl _ _) _
 have hc := check_any m X (hm.below hXb)
 obtain ⟨c0, c1, c2, c3, c4, c5⟩ := six_cells (show X.heap[w.heap.size]? = some (.cells #[_, _, _, _, _, _] 26 (0, 0)) from hX ▸ heap_alloc_new w _)
 obtain ⟨E, hE⟩ : ∃ E, E = checkP m.s := ⟨_, rfl⟩
 rw [← hE] at hc h ⊢
 have hne : (E != 0) = true := by simpa using h
 have HC := Lib.hid hc
 have HX := Lib.hid hX
 have HXB := Lib.hid hXb
 clear hc hX hXb hm hE h
 rw [show #[m.args] = #[Value.agg #[.int .i64 m.s.session, .int .i64 m.s.seq, .int .i64 m.s.snap, .slice m.ra m.s.reads.length m.rc, .slice m.sa m.s.spans.length m.sc, .slice m.wa m.s.writes.length m.wc]] from rfl]
 go_enter Tryz.func18, Tryz.ntmps18
 go_upto_region 1 with fail
 rw [← HX.out]
 go_wp2_with fail
 refine HC.out.mono ?_
 rintro e w1 ⟨rfl, hb1⟩
 have HB1 := Lib.hid (below_then HXB.out hb1)
 clear hb1 c0 c1 c2 c3 c4 c5
 go_wp2_with fail
 go_ret2
 exact ⟨rfl, HB1.out⟩
set_option maxRecDepth 100000 in
set_option maxHeartbeats 16000000 in
theorem encode_yes (m : SubM) (w : World) (hm : m.ok w) (h : checkP m.s = 0) :
 Calls Tryz.prog 18 #[m.args] w (RetBytesCode w (subBytes m.s).length (subBytes m.s) 0) := by
 have hright := check_right hm.words h
 have hputs : ∀ (W : World) (a : Option Addr) (cap : Nat), RowN W a 5 (subVals m.s).length ((subVals m.s).flatMap Vl.cells) → Calls Tryz.prog 41 #[.slice a (subVals m.s).length cap] W (RetBytesCode W (subBytes m.s).length (subBytes m.s) 0) := fun W a cap hr => by
  have hp := packPut_any a (subVals m.s).length cap (subVals m.s) W hr rfl (fun v hv => (subVals_ok hright W v hv).1) (by
   rw [bulkV_zero _ fun v hv => (subVals_ok hright W v hv).2.2, subVals_len]
   have := hright.lr; have := hright.ls; have := hright.lw; omega)
  rw [putAll_all _ _ fun v hv => (subVals_ok hright W v hv).2.1] at hp
  exact hp
 obtain ⟨post, hpost⟩ : ∃ post, post = RetBytesCode w (subBytes m.s).length (subBytes m.s) 0 := ⟨_, rfl⟩
 rw [← hpost]
 have hfin : ∀ (W : World) (e : Ending) (W' : World), Below w.heap.size w W → RetBytesCode W (subBytes m.s).length (subBytes m.s) 0 e W' → ∃ ao n cap, e = .returned (.tuple #[.slice ao n cap, .int .i64 0]) ∧ post (.returned (.tuple #[.slice ao n cap, .int .i64 0])) W' := by
  rintro W e W' hb ⟨ao, cap, rfl, ho, hb2⟩
  exact ⟨ao, _, cap, rfl, by rw [hpost]; exact ⟨ao, cap, rfl, ho.more hb.size, below_then hb hb2⟩⟩
 have hl16 := hright.lr
 have hl8 := hright.ls
 have hw16 := hright.lw
 obtain ⟨ALL, hALL⟩ : ∃ ALL, ALL = subVals m.s := ⟨_, rfl⟩
 have hall := hALL
 rw [← hALL] at hputs
 unfold subVals headV at hall
 have hnb : ∃ B, B = subBytes m.s := ⟨_, rfl⟩
 obtain ⟨B, hB⟩ := hnb
 rw [← hB] at hputs hfin
 have hcc := fun W hb => check_any m W (hm.below hb)
 rw [h] at hcc
 obtain ⟨⟨se, sq, sn, RS, SS, WS⟩, ra, rc, sa, sc, wa, wc⟩ := m
 simp only at hall hl16 hl8 hw16 hcc
 have hrr : RowN w ra 1 RS.length (cellsF RS) := hm.reads
 have hrs : RowN w sa 4 SS.length (SS.flatMap Spn.cells) := hm.spans
 have hrw : RowN w wa 1 WS.length (cellsF WS) := hm.writes
 obtain ⟨X, hX⟩ : ∃ X, X = w.alloc (.cells #[.int .i64 se, .int .i64 sq, .int .i64 sn, .slice ra RS.length rc, .slice sa SS.length sc, .slice wa WS.length wc] 26) := ⟨_, rfl⟩
 have hXb : Below w.heap.size w X := hX ▸ below_alloc (Below.refl _ _) _
 have hXs : X.heap.size = w.heap.size + 1 := by rw [hX, World.size_alloc]
 have hcell : ∀ Z, Below X.heap.size X Z → Z.heap[w.heap.size]? = some (.cells #[.int .i64 se, .int .i64 sq, .int .i64 sn, .slice ra RS.length rc, .slice sa SS.length sc, .slice wa WS.length wc] 26 (0, 0)) := fun Z hZ => (hZ.block _ (by omega)).trans (hX ▸ heap_alloc_new w _)
 have hc := hcc X hXb
 obtain ⟨c0, c1, c2, c3, c4, c5⟩ := six_cells (hcell X (Below.refl _ _))
 have hmf : ∀ (fn : Fn) (first cap : Array Value) (w : World), (Instr.makeFunc fn first cap).run Tryz.prog w = .ok (.func fn first cap) w := fun _ _ _ _ => rfl
 have he1 : ∀ args w, (callFunc 39 args).run Tryz.prog w = .ok (.enter 39 args) w := enters_of Tryz.func39 (by kernel_rfl) rfl
 have he2 : ∀ args w, (callFunc 40 args).run Tryz.prog w = .ok (.enter 40 args) w := enters_of Tryz.func40 (by kernel_rfl) rfl
 have HPUT := Lib.hid hputs
 have HFIN := Lib.hid hfin
 have HALL := Lib.hid hall
 have HRR := Lib.hid hrr
 have HRS := Lib.hid hrs
 have HRW := Lib.hid hrw
 have HC := Lib.hid hc
 have HX := Lib.hid hX
 have HXB := Lib.hid hXb
 have HXS := Lib.hid hXs
 have HCELL := Lib.hid hcell
 clear hputs hfin hall hALL hB hpost hrr hrs hrw hc hcc hX hXb hXs hcell hm h hright
 rw [show #[SubM.args ⟨⟨se, sq, sn, RS, SS, WS⟩, ra, rc, sa, sc, wa, wc⟩] = #[Value.agg #[.int .i64 se, .int .i64 sq, .int .i64 sn, .slice ra RS.length rc, .slice sa SS.length sc, .slice wa WS.length wc]] from rfl]
 go_enter Tryz.func18, Tryz.ntmps18
 go_upto_region 1 with fail
 rw [← HX.out]
 go_wp2_with fail
 refine HC.out.mono ?_
 rintro e w1 ⟨rfl, hb1⟩
 have HB1 := Lib.hid hb1
 clear hb1 c0 c1 c2 c3 c4 c5 HC
 obtain ⟨V, hV⟩ : ∃ V, V = w1.heap.size := ⟨_, rfl⟩
 obtain ⟨W0, hW0⟩ : ∃ W0, W0 = w1.alloc (.cells #[.slice none 0 0] 95) := ⟨_, rfl⟩
 have hbW : Below X.heap.size X W0 := below_then HB1.out (hW0 ▸ below_alloc (Below.refl _ _) _)
 have hws : W0.heap.size = V + 1 := by rw [hW0, World.size_alloc, hV]
 have hwlt : w.heap.size < V := by have := HB1.out.size; have := HXS.out; omega
 have hvc : W0.heap[V]? = some (.cells #[.slice none 0 0] 95 (0, 0)) := by rw [hW0, hV]; exact heap_alloc_new w1 _
 have hbx : ∀ Z, Below V W0 Z → Below X.heap.size X Z := fun Z hZ => hbW.trans (hZ.mono (by have := HXS.out; omega))
 have HCE : Hid (∀ Z, Below V W0 Z → Z.heap[w.heap.size]? = some (.cells #[.int .i64 se, .int .i64 sq, .int .i64 sn, .slice ra RS.length rc, .slice sa SS.length sc, .slice wa WS.length wc] 26 (0, 0))) := fun Z hZ => HCELL.out _ (hbx Z hZ)
 have HBW : Hid (∀ Z, Below V W0 Z → Below w.heap.size w Z) := fun Z hZ => below_then HXB.out (hbx Z hZ)
 have HWS := Lib.hid hws
 have HVC := Lib.hid hvc
 have HW0 := Lib.hid hW0
 have HVV := Lib.hid hV
 clear hV hW0 hbW hws hvc hbx HB1 HXB HXS HCELL HX hwlt
 go_upto_region 7 with fail
 rw [← HW0.out, ← HVV.out]
 clear HW0 HVV
 obtain ⟨c0, c1, c2, c3, c4, c5⟩ := six_cells (HCE.out W0 (Below.refl _ _))
 obtain ⟨W1, hW1⟩ : ∃ W1, W1 = W0.alloc (.cells #[.int .i64 se, .int .i64 sq, .int .i64 sn, .int .i64 (RS.length : Nat)] 2) := ⟨_, rfl⟩
 have hE1 : W1.heap[W0.heap.size]? = some (.cells #[.int .i64 se, .int .i64 sq, .int .i64 sn, .int .i64 (RS.length : Nat)] 2 (0, 0)) := hW1 ▸ heap_alloc_new W0 _
 have hI0 : EncI W0 V W1 [] none := ⟨⟨none, 0, by rw [hW1]; exact (heap_alloc_old _ _ (by rw [HWS.out]; omega)).trans HVC.out, World.ownsRow_nil _ _ _ _, rfl⟩, by rw [hW1]; exact (Below.refl _ _).alloc (by rw [HWS.out]; omega) _⟩
 have HI0 := Lib.hid hI0
 have HE1 := Lib.hid hE1
 have HWE : Hid (W1 = _) := hW1
 clear hE1 hI0 hW1
 go_wp2_with fail
 try rw [← HWE.out]
 clear c0 c1 c2 c3 c4 c5 HWE HVC
 go_loopg [34] 4 (fun g s34 wr => ∃ (k : Nat) (vs : List Vl) (row : Option Nat), s34 = .int .i64 k ∧ k ≤ 4 ∧ g = 4 - k ∧ Hid (vs = ([se, sq, sn, (RS.length : Int)].take k).map numV) ∧ Hid (EncI W0 V wr vs row) ∧ Hid (wr.heap[W0.heap.size]? = some (.cells #[.int .i64 se, .int .i64 sq, .int .i64 sn, .int .i64 (RS.length : Nat)] 2 (0, 0))) ∧ Hid (row ≠ some W0.heap.size))
 case atStart => exact ⟨0, [], none, rfl, by omega, rfl, rfl, HI0.out, HE1.out, fun h => by cases h⟩
 case round =>
  obtain ⟨k, vs, row, rfl, hk, rfl, HVS, HI, HE, HNE⟩ := hrel
  clear HI0 HE1
  have hk0 : (0 : Int) ≤ (k : Int) := by omega
  have hnat : ((k : Int)).toNat = k := by omega
  by_cases hlt : k < 4
  · obtain ⟨z, hz⟩ : ∃ z, ([se, sq, sn, (RS.length : Int)] : List Int)[k]? = some z := ⟨_, List.getElem?_eq_getElem hlt⟩
    have hc : wr.cell? ⟨W0.heap.size, 0 + k, none⟩ = some (.int .i64 z) := by
     obtain ⟨b, o, hbo, hc⟩ := int_at (RowN.of_block (n := 4) (size := 1) (vs := cellsI [se, sq, sn, (RS.length : Int)]) HE.out rfl rfl) k hlt z hz
     cases hbo
     exact hc
    rw [Nat.zero_add] at hc
    have hkn : (k : Int) < 4 := by omega
    have HCL := Lib.hid (encN_any z V vs row wr HI.out.1 (by rw [HVS.out, List.length_map, List.length_take]; omega))
    have HZ := Lib.hid hz
    clear hz
    go_wp2_with fail
    refine HCL.out.mono ?_
    rintro e w4 hp
    obtain ⟨rfl, row', hi, hrw, ht⟩ := EncI.next HI.out hp
    have hlE : W0.heap.size < wr.heap.size := lt_of_block HE.out
    have HE' : Hid (w4.heap[W0.heap.size]? = _) := (keepE ht hlE (by have := HWS.out; omega) HNE.out).trans HE.out
    have HN' : Hid (row' ≠ some W0.heap.size) := fun h => by rcases hrw _ h with h | h; exact HNE.out h; omega
    have hv' : vs ++ [numV z] = ([se, sq, sn, (RS.length : Int)].take (k + 1)).map numV := by
     rw [HVS.out, List.take_add_one, HZ.out, List.map_append]
     rfl
    rw [hv'] at hi
    have HI' := Lib.hid hi
    clear hp hi hrw ht hv' HCL HI HE HVS HZ hlE hc
    go_wp2_with fail
    go_roundg (4 - (k + 1))
    case measure => omega
    case rel => exact ⟨k + 1, _, row', by go_num, by omega, rfl, rfl, HI'.out, HE'.out, HN'.out⟩
  · obtain rfl : k = 4 := by omega
    obtain ⟨vs0, hvs0⟩ : ∃ x, x = vs := ⟨_, rfl⟩
    rw [← hvs0] at HVS HI
    have HVS0 : Hid (vs0 = [numV se, numV sq, numV sn, numV (RS.length : Nat)]) := HVS.out
    have HI1 := HI
    clear HI HVS HE HNE hvs0 vs hk hlt hk0 hnat
    obtain ⟨_, _, _, c3, _, _⟩ := six_cells (HCE.out _ HI1.out.2)
    go_wp2_with fail
    clear c3
    go_loopg [45] RS.length (fun g s45 wr => ∃ (k : Nat) (vs : List Vl) (row : Option Nat), s45 = .int .i64 k ∧ k ≤ RS.length ∧ g = RS.length - k ∧ Hid (vs = vs0 ++ (RS.take k).map keyV) ∧ Hid (EncI W0 V wr vs row))
    case atStart => exact ⟨0, vs0, _, rfl, Nat.zero_le _, rfl, (List.append_nil _).symm, HI1.out⟩
    case round =>
     obtain ⟨k, vs, row, rfl, hk, rfl, HVS, HI⟩ := hrel
     clear HI1
     have hk0 : (0 : Int) ≤ (k : Int) := by omega
     have hnat : ((k : Int)).toNat = k := by omega
     have HVL : Hid (vs.length ≤ 100) := by show _ ≤ _; rw [HVS.out, HVS0.out, List.length_append, List.length_map, List.length_take]; simp; omega
     by_cases hlt : k < RS.length
     · obtain ⟨x, hx⟩ : ∃ x, RS[k]? = some x := ⟨_, List.getElem?_eq_getElem hlt⟩
       obtain ⟨b, off, rfl, f0⟩ := float_at (HRR.out.below (HBW.out _ HI.out.2)) k hlt x hx
       have hkn : (k : Int) < (RS.length : Int) := by omega
       have HCL := Lib.hid (encK_any x V vs row wr HI.out.1 (by have := HVL.out; omega))
       have HX := Lib.hid hx
       clear hx
       go_wp2_with fail
       refine HCL.out.mono ?_
       rintro e w4 hp
       obtain ⟨rfl, row', hi, hrw, ht⟩ := EncI.next HI.out hp
       have hv' : vs ++ [keyV x] = vs0 ++ (RS.take (k + 1)).map keyV := by
        rw [HVS.out, List.take_add_one, HX.out, List.map_append, List.append_assoc]
        rfl
       rw [hv'] at hi
       have HI' := Lib.hid hi
       clear hp hi hrw ht hv' HCL HI HVS HX f0
       go_wp2_with fail
       go_roundg (RS.length - (k + 1))
       case measure => omega
       case rel => exact ⟨k + 1, _, row', by go_num, by omega, rfl, rfl, HI'.out⟩
     · obtain rfl : k = RS.length := by omega
       have hvf := HVS.out
       rw [List.take_of_length_le (Nat.le_refl _)] at hvf
       obtain ⟨vs1, hvs1⟩ : ∃ x, x = vs := ⟨_, rfl⟩
       rw [← hvs1] at hvf HI HVL
       have HVS1 := Lib.hid hvf
       have HI2 := HI
       have HL1 := HVL
       clear HI HVS HVL hvs1 vs hvf hk hlt hk0 hnat
       obtain ⟨_, _, _, _, c4, _⟩ := six_cells (HCE.out _ HI2.out.2)
       have HCL := Lib.hid (encN_any (SS.length : Nat) V _ _ _ HI2.out.1 (by have := HL1.out; omega))
       go_wp2_with fail
       refine HCL.out.mono ?_
       rintro e x2 hp
       obtain ⟨rfl, row2, hi, _, _⟩ := EncI.next HI2.out hp
       obtain ⟨vs2, hvs⟩ : ∃ x, x = vs1 ++ [numV (SS.length : Nat)] := ⟨_, rfl⟩
       rw [← hvs] at hi
       have HI3 := Lib.hid hi
       have HVS2 := Lib.hid hvs
       have HL2 : Hid (vs2.length ≤ 101) := by show _ ≤ _; rw [hvs, List.length_append]; have := HL1.out; simp; omega
       clear hp hi hvs HCL HI2 HL1 c4
       obtain ⟨_, _, _, _, c4, _⟩ := six_cells (HCE.out _ HI3.out.2)
       go_wp2_with fail
       clear c4
       go_loopg [61] SS.length (fun g s61 wr => ∃ (k : Nat) (vs : List Vl) (row : Option Nat), s61 = .int .i64 k ∧ k ≤ SS.length ∧ g = SS.length - k ∧ Hid (vs = vs2 ++ (SS.take k).flatMap spanV) ∧ Hid (EncI W0 V wr vs row))
       case atStart => exact ⟨0, vs2, _, rfl, Nat.zero_le _, rfl, (List.append_nil _).symm, HI3.out⟩
       case round =>
        obtain ⟨k, vs, row, rfl, hk, rfl, HVS, HI⟩ := hrel
        clear HI3
        have hk0 : (0 : Int) ≤ (k : Int) := by omega
        have hnat : ((k : Int)).toNat = k := by omega
        have HVL : Hid (vs.length ≤ 117) := by show _ ≤ _; rw [HVS.out, List.length_append, spanV_len, List.length_take]; have := HL2.out; omega
        by_cases hlt : k < SS.length
        · obtain ⟨x, hx⟩ : ∃ x, SS[k]? = some x := ⟨_, List.getElem?_eq_getElem hlt⟩
          obtain ⟨b, off, rfl, f0, f1, f2, f3⟩ := span_at (HRS.out.below (HBW.out _ HI.out.2)) rfl k hlt x hx
          have hkn : (k : Int) < (SS.length : Int) := by omega
          obtain ⟨E, hE⟩ : ∃ E, E = wr.heap.size := ⟨_, rfl⟩
          obtain ⟨y0, hy0⟩ : ∃ Y, Y = wr.alloc (.cells #[.float .f64 x.lo, .float .f64 x.hi, .bool x.lop, .bool x.hop] 101) := ⟨_, rfl⟩
          have hby : Below wr.heap.size wr y0 := hy0 ▸ below_alloc (Below.refl _ _) _
          have hEc : y0.heap[E]? = some (.cells #[.float .f64 x.lo, .float .f64 x.hi, .bool x.lop, .bool x.hop] 101 (0, 0)) := by rw [hE, hy0]; exact heap_alloc_new wr _
          have hys : y0.heap.size = E + 1 := by rw [hy0, World.size_alloc, hE]
          have hne0 : row ≠ some E := fun h => by have := (HI.out.1.row_lt E h).2; omega
          have HVE : Hid (V < E) := by have := HI.out.1.lt; show _ < _; omega
          have HJ0 := Lib.hid (HI.out.below hby)
          have HEC := Lib.hid hEc
          have HYS := Lib.hid hys
          have HNE0 := Lib.hid hne0
          have HY0 := Lib.hid hy0
          have HEE := Lib.hid hE
          have HX := Lib.hid hx
          clear hby hEc hys hne0 hy0 hE hx HI
          go_upto_region 21 with fail
          rw [← HY0.out, ← HEE.out]
          clear HY0 HEE f0 f1 f2 f3
          obtain ⟨g0, _, _, _⟩ := four_cells HEC.out
          have HC1 := Lib.hid (encK_any x.lo V _ _ _ HJ0.out.1 (by have := HVL.out; omega))
          go_wp2_with fail
          refine HC1.out.mono ?_
          rintro e y1 hp
          obtain ⟨rfl, ro1, hi, hrw, ht⟩ := EncI.next HJ0.out hp
          have hc1 := (keepE ht (by rw [HYS.out]; omega) HVE.out HNE0.out).trans HEC.out
          obtain ⟨_, g1, _, _⟩ := four_cells hc1
          have HJ1 := Lib.hid hi
          clear hp hi hrw ht hc1 HC1 g0 HJ0 HEC HYS HNE0 HVE
          have HC2 := Lib.hid (encK_any x.hi V _ _ _ HJ1.out.1 (by have := HVL.out; rw [List.length_append]; simp; omega))
          go_wp2_with fail
          refine HC2.out.mono ?_
          rintro e y2 hp
          obtain ⟨rfl, ro2, hi, hrw, ht⟩ := EncI.next HJ1.out hp
          have hv' : vs ++ [keyV x.lo] ++ [keyV x.hi] = vs2 ++ (SS.take (k + 1)).flatMap spanV := by
           rw [HVS.out, List.take_add_one, HX.out, List.flatMap_append]
           simp [spanV]
          rw [hv'] at hi
          have HI' := Lib.hid hi
          clear hp hi hrw ht hv' HC2 HJ1 HVS HX g1
          go_wp2_with fail
          go_roundg (SS.length - (k + 1))
          case measure => omega
          case rel => exact ⟨k + 1, _, ro2, by go_num, by omega, rfl, rfl, HI'.out⟩
        · obtain rfl : k = SS.length := by omega
          have hvf := HVS.out
          rw [List.take_of_length_le (Nat.le_refl _)] at hvf
          obtain ⟨vs3, hvs3⟩ : ∃ x, x = vs := ⟨_, rfl⟩
          rw [← hvs3] at hvf HI HVL
          have HVS3 := Lib.hid hvf
          have HI4 := HI
          have HL3 := HVL
          clear HI HVS HVL hvs3 vs hvf hk hlt hk0 hnat
          obtain ⟨_, _, _, _, _, c5⟩ := six_cells (HCE.out _ HI4.out.2)
          have HCL := Lib.hid (encN_any (WS.length : Nat) V _ _ _ HI4.out.1 (by have := HL3.out; omega))
          go_wp2_with fail
          refine HCL.out.mono ?_
          rintro e x5 hp
          obtain ⟨rfl, row5, hi, _, _⟩ := EncI.next HI4.out hp
          obtain ⟨vs4, hvs⟩ : ∃ x, x = vs3 ++ [numV (WS.length : Nat)] := ⟨_, rfl⟩
          rw [← hvs] at hi
          have HI5 := Lib.hid hi
          have HVS4 := Lib.hid hvs
          have HL4 : Hid (vs4.length ≤ 118) := by show _ ≤ _; rw [hvs, List.length_append]; have := HL3.out; simp; omega
          clear hp hi hvs HCL HI4 HL3 c5
          obtain ⟨_, _, _, _, _, c5⟩ := six_cells (HCE.out _ HI5.out.2)
          go_wp2_with fail
          clear c5
          go_loopg [82] WS.length (fun g s82 wr => ∃ (k : Nat) (vs : List Vl) (row : Option Nat), s82 = .int .i64 k ∧ k ≤ WS.length ∧ g = WS.length - k ∧ Hid (vs = vs4 ++ (WS.take k).map keyV) ∧ Hid (EncI W0 V wr vs row))
          case atStart => exact ⟨0, vs4, _, rfl, Nat.zero_le _, rfl, (List.append_nil _).symm, HI5.out⟩
          case round =>
           obtain ⟨k, vs, row, rfl, hk, rfl, HVS, HI⟩ := hrel
           clear HI5
           have hk0 : (0 : Int) ≤ (k : Int) := by omega
           have hnat : ((k : Int)).toNat = k := by omega
           have HVL : Hid (vs.length ≤ 134) := by show _ ≤ _; rw [HVS.out, List.length_append, List.length_map, List.length_take]; have := HL4.out; omega
           by_cases hlt : k < WS.length
           · obtain ⟨x, hx⟩ : ∃ x, WS[k]? = some x := ⟨_, List.getElem?_eq_getElem hlt⟩
             obtain ⟨b, off, rfl, f0⟩ := float_at (HRW.out.below (HBW.out _ HI.out.2)) k hlt x hx
             have hkn : (k : Int) < (WS.length : Int) := by omega
             have HCL := Lib.hid (encK_any x V vs row wr HI.out.1 (by have := HVL.out; omega))
             have HX := Lib.hid hx
             clear hx
             go_wp2_with fail
             refine HCL.out.mono ?_
             rintro e w4 hp
             obtain ⟨rfl, row', hi, hrw, ht⟩ := EncI.next HI.out hp
             have hv' : vs ++ [keyV x] = vs4 ++ (WS.take (k + 1)).map keyV := by
              rw [HVS.out, List.take_add_one, HX.out, List.map_append, List.append_assoc]
              rfl
             rw [hv'] at hi
             have HI' := Lib.hid hi
             clear hp hi hrw ht hv' HCL HI HVS HX f0
             go_wp2_with fail
             go_roundg (WS.length - (k + 1))
             case measure => omega
             case rel => exact ⟨k + 1, _, row', by go_num, by omega, rfl, rfl, HI'.out⟩
           · obtain rfl : k = WS.length := by omega
             have hva : vs = ALL := by
              have := HVS.out
              rw [List.take_of_length_le (Nat.le_refl _)] at this
              rw [this, HVS4.out, HVS3.out, HVS2.out, HVS1.out, HVS0.out, HALL.out]
             rw [hva] at HI
             obtain ⟨ao, cap, hv, ho, hr⟩ := HI.out.1
             obtain ⟨z0, _⟩ := vcells hv
             have HP := Lib.hid (HPUT.out wr ao cap (RowN.of_own ho))
             have HB := Lib.hid (HBW.out _ HI.out.2)
             clear hva HVS HVL hv ho hr HI
             go_wp2_with fail
             refine HP.out.mono ?_
             intro e w9 hp
             obtain ⟨ao9, n9, cap9, rfl, hpost⟩ := HFIN.out _ _ _ HB.out hp
             have HPOST := Lib.hid hpost
             clear hp hpost HP
             go_wp2_with fail
             exact HPOST.out
end Go.Proofs.YtpknmfmpiachkaaGreat
