/- The closures of Encode: a value more. -/
import Derived.Test.YtcejamblndilbaaOf1
namespace Go.Proofs.Ytcejamblndilbaa
open Go.RowKit

/-- the cell V holds the call's own list of these values -/
def VsAt (w : World) (V : Nat) (vs : List Vl) (row : Option Nat) : Prop := ∃ ao cap, w.heap[V]? = some (.cells #[.slice ao vs.length cap] 62 (0, 0)) ∧ w.ownsRow (V + 1) 65 5 (.slice ao vs.length cap) vs.length (vs.flatMap Vl.cells) ∧ row = Value.ownBlock (.slice ao vs.length cap)
def VsPost (w : World) (V : Nat) (vs : List Vl) (row : Option Nat) (e : Ending) (w' : World) : Prop :=
  e = .returned (.tuple #[]) ∧ ∃ row', VsAt w' V vs row' ∧ (row' = row ∨ row' = some w.heap.size ∨ row' = some (w.heap.size + 1)) ∧ Touch (V :: row.toList) w w'
theorem vcells {w : World} {B : Nat} {T : TypeId} {c0 : Value} (h : w.heap[B]? = some (.cells #[c0] T (0, 0))) : w.cell? ⟨B, 0, none⟩ = some c0 ∧ w.frozen? ⟨B, 0, none⟩ = false := by
  refine ⟨?_, ?_⟩
  · simp [World.cell?, h]
  · simp [World.frozen?, h]
theorem vs_end {w wX w1 : World} {V : Nat} {vs vs' : List Vl} {ao ao' : Option Addr} {cap cap' : Nat} {o : Obj} {row : Option Nat} (hr : row = Value.ownBlock (.slice ao vs.length cap))
    (hX : wX = w.alloc o) (hV : w.heap[V]? = some (.cells #[.slice ao vs.length cap] 62 (0, 0))) (hlt : ∀ g, row = some g → V < g)
    (ho : w1.ownsRow (V + 1) 65 5 (.slice ao' vs'.length cap') vs'.length (vs'.flatMap Vl.cells)) (hg : wX.grownBy w1 (Value.ownBlock (.slice ao vs.length cap)))
    (hat : Value.ownBlock (.slice ao' vs'.length cap') = Value.ownBlock (.slice ao vs.length cap) ∨ Value.ownBlock (.slice ao' vs'.length cap') = some wX.heap.size) :
    VsPost w V vs' row (.returned (.tuple #[])) (w1.setCell ⟨V, 0, none⟩ (.slice ao' vs'.length cap')) := by
  subst hX
  have hVs : V < w.heap.size := (Array.getElem?_eq_some_iff.1 hV).1
  have hV1 : w1.heap[V]? = some (.cells #[.slice ao vs.length cap] 62 (0, 0)) := by
    rw [hg.block V (by rw [World.size_alloc]; omega) (by rw [← hr]; intro h; have := hlt V h.symm; omega)]
    exact (heap_alloc_old _ _ hVs).trans hV
  refine ⟨rfl, _, ⟨ao', cap', set_block (i := 0) hV1 _, ?_, rfl⟩, ?_, ?_⟩
  · exact own_keep ho fun g hgg hl => (Touch.set (S := [V]) w1 V 0 _ (by simp)).block g hl (by have := (ho.lt g hgg).1; simp; omega)
  · rcases hat with h | h
    · exact .inl (h.trans hr.symm)
    · exact .inr (.inr (by rw [h, World.size_alloc]))
  · refine touch_set ?_ _ _ _ (by simp)
    refine (Touch.alloc _ w o).trans ?_
    rw [← hr] at hg
    refine ⟨hg.os, hg.tape, hg.output, hg.size, fun k hk hn => hg.block k hk (fun h => hn ?_)⟩
    subst h
    simp

def numV (n : Int) : Vl := ⟨1, n, 0, ⟨none, 0, 0, []⟩, false⟩
def flagV (b : Bool) : Vl := ⟨4, 0, 0, ⟨none, 0, 0, []⟩, b⟩
def bytesV (s : Sl) : Vl := ⟨3, 0, 0, s, false⟩
/-- a value, if it is named -/
def ifV (c : Bool) (v : Vl) : List Vl := if c then [v] else []

set_option maxRecDepth 100000 in
set_option maxHeartbeats 3200000 in
theorem encNum_any (named : Bool) (n : Int) (V : Nat) (vs : List Vl) (row : Option Nat) (w : World) (h : VsAt w V vs row) (hn : vs.length ≤ 1000000) :
    Calls Try.prog 28 #[.bool named, .int .i64 n, .pointer (some ⟨V, 0, none⟩)] w (VsPost w V (vs ++ ifV named (numV n)) row) := by
  obtain ⟨ao, cap, hV, ho, hr⟩ := h
  have hlt : ∀ g, row = some g → V < g := fun g hg => by have := (ho.lt g (hr ▸ hg)).1; omega
  have hVs : V < w.heap.size := (Array.getElem?_eq_some_iff.1 hV).1
  cases named
  · go_enter Try.func28, Try.ntmps28
    go_wp2_with fail
    go_end0
    exact ⟨rfl, row, by simp only [ifV, Bool.false_eq_true, if_false, List.append_nil]; exact ⟨ao, cap, hV, ho, hr⟩, .inl rfl, Touch.refl _ _⟩
  · have hstf := store_float
    obtain ⟨z0, f0⟩ := vcells hV
    have ho2 : ∀ o, (w.alloc o).ownsRow (V + 1) 65 5 (.slice ao vs.length cap) vs.length (vs.flatMap Vl.cells) := fun o => ho.alloc o
    have HO := Lib.hid ho2
    have hend := fun (ao' : Option Addr) (cap' : Nat) (o : Obj) (w1 : World) => vs_end (vs' := vs ++ [numV n]) (ao' := ao') (cap' := cap') (w1 := w1) hr (rfl : w.alloc o = w.alloc o) hV hlt
    have HEND := Lib.hid hend
    have hVa : ∀ o, (w.alloc o).heap[V]? = some (.cells #[.slice ao vs.length cap] 62 (0, 0)) := fun o => (heap_alloc_old _ _ hVs).trans hV
    have HVA := Lib.hid hVa
    have hne : ∀ g, Value.ownBlock (.slice ao vs.length cap) = some g → V < g := fun g hg => hlt g (hr.trans hg)
    have HNE := Lib.hid hne
    have HVS := Lib.hid hVs
    clear hend ho2 ho hr hV hlt hVa hne hVs
    go_enter Try.func28, Try.ntmps28
    go_wp2_with (at_builtin; refine wpList_appendVal rfl (.tmp 6) (.tmp 9) rfl (V + 1) ao vs.length cap (vs.flatMap Vl.cells) rfl (HO.out _) (some ⟨w.heap.size, 0, none⟩) 1 1 (Vl.cells (numV n)) rfl (RowN.of_block (heap_alloc_new w _) rfl rfl) (fun h => by cases h) (cells_one5 _) (by omega) (by rw [World.size_alloc]; exact Nat.le_succ_of_le HVS.out) (vs.length + 1) rfl ?_; intro ao' cap' w1 hown1 hg1 hat1; obtain ⟨z1, f1⟩ := vcells ((hg1.block V (by rw [World.size_alloc]; exact Nat.lt_succ_of_lt HVS.out) (fun h => absurd (HNE.out V h.symm) (Nat.lt_irrefl _))).trans (HVA.out _)); have HOW := Lib.hid hown1; have HG := Lib.hid hg1; have HAT := Lib.hid hat1; clear hown1 hg1 hat1)
    go_end0
    have hl : (vs ++ [numV n]).length = vs.length + 1 := by simp
    have he := fun o => HEND.out ao' cap' o w1
    simp only [hl, List.flatMap_append] at he
    exact he _ (by simpa using HOW.out) HG.out HAT.out

set_option maxRecDepth 100000 in
set_option maxHeartbeats 3200000 in
theorem encFlag_any (named : Bool) (b : Bool) (V : Nat) (vs : List Vl) (row : Option Nat) (w : World) (h : VsAt w V vs row) (hn : vs.length ≤ 1000000) :
    Calls Try.prog 29 #[.bool named, .bool b, .pointer (some ⟨V, 0, none⟩)] w (VsPost w V (vs ++ ifV named (flagV b)) row) := by
  obtain ⟨ao, cap, hV, ho, hr⟩ := h
  have hlt : ∀ g, row = some g → V < g := fun g hg => by have := (ho.lt g (hr ▸ hg)).1; omega
  have hVs : V < w.heap.size := (Array.getElem?_eq_some_iff.1 hV).1
  cases named
  · go_enter Try.func29, Try.ntmps29
    go_wp2_with fail
    go_end0
    exact ⟨rfl, row, by simp only [ifV, Bool.false_eq_true, if_false, List.append_nil]; exact ⟨ao, cap, hV, ho, hr⟩, .inl rfl, Touch.refl _ _⟩
  · have hstf := store_float
    obtain ⟨z0, f0⟩ := vcells hV
    have ho2 : ∀ o, (w.alloc o).ownsRow (V + 1) 65 5 (.slice ao vs.length cap) vs.length (vs.flatMap Vl.cells) := fun o => ho.alloc o
    have HO := Lib.hid ho2
    have hend := fun (ao' : Option Addr) (cap' : Nat) (o : Obj) (w1 : World) => vs_end (vs' := vs ++ [flagV b]) (ao' := ao') (cap' := cap') (w1 := w1) hr (rfl : w.alloc o = w.alloc o) hV hlt
    have HEND := Lib.hid hend
    have hVa : ∀ o, (w.alloc o).heap[V]? = some (.cells #[.slice ao vs.length cap] 62 (0, 0)) := fun o => (heap_alloc_old _ _ hVs).trans hV
    have HVA := Lib.hid hVa
    have hne : ∀ g, Value.ownBlock (.slice ao vs.length cap) = some g → V < g := fun g hg => hlt g (hr.trans hg)
    have HNE := Lib.hid hne
    have HVS := Lib.hid hVs
    clear hend ho2 ho hr hV hlt hVa hne hVs
    go_enter Try.func29, Try.ntmps29
    go_wp2_with (at_builtin; refine wpList_appendVal rfl (.tmp 6) (.tmp 9) rfl (V + 1) ao vs.length cap (vs.flatMap Vl.cells) rfl (HO.out _) (some ⟨w.heap.size, 0, none⟩) 1 1 (Vl.cells (flagV b)) rfl (RowN.of_block (heap_alloc_new w _) rfl rfl) (fun h => by cases h) (cells_one5 _) (by omega) (by rw [World.size_alloc]; exact Nat.le_succ_of_le HVS.out) (vs.length + 1) rfl ?_; intro ao' cap' w1 hown1 hg1 hat1; obtain ⟨z1, f1⟩ := vcells ((hg1.block V (by rw [World.size_alloc]; exact Nat.lt_succ_of_lt HVS.out) (fun h => absurd (HNE.out V h.symm) (Nat.lt_irrefl _))).trans (HVA.out _)); have HOW := Lib.hid hown1; have HG := Lib.hid hg1; have HAT := Lib.hid hat1; clear hown1 hg1 hat1)
    go_end0
    have hl : (vs ++ [flagV b]).length = vs.length + 1 := by simp
    have he := fun o => HEND.out ao' cap' o w1
    simp only [hl, List.flatMap_append] at he
    exact he _ (by simpa using HOW.out) HG.out HAT.out

set_option maxRecDepth 100000 in
set_option maxHeartbeats 3200000 in
theorem encBytes_any (named : Bool) (s : Sl) (V : Nat) (vs : List Vl) (row : Option Nat) (w : World) (h : VsAt w V vs row) (hn : vs.length ≤ 1000000) :
    Calls Try.prog 30 #[.bool named, .slice s.a s.len s.cap, .pointer (some ⟨V, 0, none⟩)] w (VsPost w V (vs ++ ifV named (bytesV s)) row) := by
  obtain ⟨ao, cap, hV, ho, hr⟩ := h
  have hlt : ∀ g, row = some g → V < g := fun g hg => by have := (ho.lt g (hr ▸ hg)).1; omega
  have hVs : V < w.heap.size := (Array.getElem?_eq_some_iff.1 hV).1
  cases named
  · go_enter Try.func30, Try.ntmps30
    go_wp2_with fail
    go_end0
    exact ⟨rfl, row, by simp only [ifV, Bool.false_eq_true, if_false, List.append_nil]; exact ⟨ao, cap, hV, ho, hr⟩, .inl rfl, Touch.refl _ _⟩
  · have hstf := store_float
    obtain ⟨z0, f0⟩ := vcells hV
    have ho2 : ∀ o, (w.alloc o).ownsRow (V + 1) 65 5 (.slice ao vs.length cap) vs.length (vs.flatMap Vl.cells) := fun o => ho.alloc o
    have HO := Lib.hid ho2
    have hend := fun (ao' : Option Addr) (cap' : Nat) (o : Obj) (w1 : World) => vs_end (vs' := vs ++ [bytesV s]) (ao' := ao') (cap' := cap') (w1 := w1) hr (rfl : w.alloc o = w.alloc o) hV hlt
    have HEND := Lib.hid hend
    have hVa : ∀ o, (w.alloc o).heap[V]? = some (.cells #[.slice ao vs.length cap] 62 (0, 0)) := fun o => (heap_alloc_old _ _ hVs).trans hV
    have HVA := Lib.hid hVa
    have hne : ∀ g, Value.ownBlock (.slice ao vs.length cap) = some g → V < g := fun g hg => hlt g (hr.trans hg)
    have HNE := Lib.hid hne
    have HVS := Lib.hid hVs
    clear hend ho2 ho hr hV hlt hVa hne hVs
    go_enter Try.func30, Try.ntmps30
    go_wp2_with (at_builtin; refine wpList_appendVal rfl (.tmp 6) (.tmp 9) rfl (V + 1) ao vs.length cap (vs.flatMap Vl.cells) rfl (HO.out _) (some ⟨w.heap.size, 0, none⟩) 1 1 (Vl.cells (bytesV s)) rfl (RowN.of_block (heap_alloc_new w _) rfl rfl) (fun h => by cases h) (cells_one5 _) (by omega) (by rw [World.size_alloc]; exact Nat.le_succ_of_le HVS.out) (vs.length + 1) rfl ?_; intro ao' cap' w1 hown1 hg1 hat1; obtain ⟨z1, f1⟩ := vcells ((hg1.block V (by rw [World.size_alloc]; exact Nat.lt_succ_of_lt HVS.out) (fun h => absurd (HNE.out V h.symm) (Nat.lt_irrefl _))).trans (HVA.out _)); have HOW := Lib.hid hown1; have HG := Lib.hid hg1; have HAT := Lib.hid hat1; clear hown1 hg1 hat1)
    go_end0
    have hl : (vs ++ [bytesV s]).length = vs.length + 1 := by simp
    have he := fun o => HEND.out ao' cap' o w1
    simp only [hl, List.flatMap_append] at he
    exact he _ (by simpa using HOW.out) HG.out HAT.out

end Go.Proofs.Ytcejamblndilbaa
