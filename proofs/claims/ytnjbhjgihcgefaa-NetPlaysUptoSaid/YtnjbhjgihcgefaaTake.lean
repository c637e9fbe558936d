/- Take, Drop. -/
import Derived.Test.YtnjbhjgihcgefaaDelete
namespace Go.Proofs.Ytnjbhjgihcgefaa
open Go.RowKit

def takeBox (w : World) (l : L3) : World := (w.alloc (.cells #[.int .i64 0, .int .i64 0, .slice none 0 0] 30)).alloc (.cells #[.int .i64 l.f, .int .i64 l.t, .slice l.s.a l.s.len l.s.cap] 30)
theorem takeBox_size (w : World) (l : L3) : (takeBox w l).heap.size = w.heap.size + 2 := by unfold takeBox; rw [World.size_alloc, World.size_alloc]
theorem takeBox_below (w : World) (l : L3) : Below w.heap.size w (takeBox w l) := ((Below.refl _ _).alloc (Nat.le_refl _) _).alloc (by rw [World.size_alloc]; omega) _
theorem takeBox_a (w : World) (l : L3) : (takeBox w l).heap[w.heap.size]? = some (.cells #[.int .i64 0, .int .i64 0, .slice none 0 0] 30 (0, 0)) :=
  (heap_alloc_old _ _ (by rw [World.size_alloc]; omega)).trans (heap_alloc_new w _)
theorem takeBox_b (w : World) (l : L3) : (takeBox w l).heap[w.heap.size + 1]? = some (.cells #[.int .i64 l.f, .int .i64 l.t, .slice l.s.a l.s.len l.s.cap] 30 (0, 0)) := by
  have := heap_alloc_new (w.alloc (.cells #[.int .i64 0, .int .i64 0, .slice none 0 0] 30)) (.cells #[.int .i64 l.f, .int .i64 l.t, .slice l.s.a l.s.len l.s.cap] 30)
  rw [World.size_alloc] at this
  exact this

/-- three stores into the block A -/
theorem touch_three (S : List Nat) (w : World) (A : Nat) (hA : A ∈ S) (v0 v1 v2 : Value) : Touch S w (((w.setCell ⟨A, 0, none⟩ v0).setCell ⟨A, 1, none⟩ v1).setCell ⟨A, 2, none⟩ v2) :=
  ((Touch.set w _ _ _ hA).trans (Touch.set _ _ _ _ hA)).trans (Touch.set _ _ _ _ hA)

theorem net_erase {w w2 w3 : World} {N n cap i : Nat} {most : Int} {ls : List L3} {ao : Option Addr} {l : L3} (h : NetAt w N most ls ao n cap) (hg : (takeBox w l).grownBy w2 (Value.ownBlock (.slice ao n cap))) (hrow : w2.ownsRow (N + 1) 30 3 (.slice ao (n - 1) cap) (n - 1) ((ls.eraseIdx i).flatMap L3.cells)) (hi : i < n)
    (ht : Touch [w.heap.size] (w2.setCell ⟨N, 1, none⟩ (.slice ao (n - 1) cap)) w3) :
    NetAt w3 N most (ls.eraseIdx i) ao (n - 1) cap ∧ NStep w w3 N ao ao ∧ ∀ l' ∈ ls, Own8 w3 (N + 1) l'.s.a l'.s.len l'.s.cap l'.s.bs := by
  have hNl := lt_of_block h.cell
  have hbs := takeBox_below w l
  have hzs := takeBox_size w l
  have hz2 := hg.size
  have hX := h.below hbs
  have hN2 : w2.heap[N]? = some (.cells #[.int .i64 most, .slice ao n cap] 57 (0, 0)) := (hg.block N (by omega) (fun e => by have := (h.row.lt N e.symm).1; omega)).trans hX.cell
  have h3 : ∀ g, g < w2.heap.size → g ≠ N → g ≠ w.heap.size → w3.heap[g]? = w2.heap[g]? := fun g hl hn hs => (ht.block g (by simp [World.setCell]; omega) (by simpa using hs)).trans (Below.heap_setCell w2 _ _ g (by simpa using hn))
  have k8 : ∀ l' ∈ ls, Own8 w3 (N + 1) l'.s.a l'.s.len l'.s.cap l'.s.bs := fun l' hl' => by
    have h0 := h.own l' hl'
    have h1 := hX.own l' hl'
    have h2 := own_keep (w' := w2) h1 fun g hgg hl => hg.block g hl (fun e => own_apart hX.row h1 (by decide) g e.symm hgg)
    exact own_keep h2 fun g hgg hl => h3 g hl (by have := (h0.lt g hgg).1; omega) (by have := (h0.lt g hgg).2; omega)
  have hz3 : w2.heap.size ≤ w3.heap.size := by have := ht.size; simp [World.setCell] at this; exact this
  refine ⟨⟨?_, ?_, ?_, fun u hu => k8 u (List.mem_of_mem_eraseIdx hu)⟩, ⟨?_, ?_, ?_, by omega, fun k hk hn hx => ?_, fun _ h => .inl h⟩, k8⟩
  · exact (ht.block N (by simp [World.setCell]; omega) (by simp; omega)).trans (set_block hN2 _)
  · rw [List.length_eraseIdx, h.len, if_pos hi]
  · exact own_keep hrow fun g hgg hl => h3 g hl (by have := (hrow.lt g hgg).1; omega) (by rw [own_addr ao (n - 1) cap n cap] at hgg; have := (h.row.lt g hgg).2; omega)
  · exact ht.os.trans (hg.os.trans hbs.os)
  · exact ht.tape.trans (hg.tape.trans hbs.tape)
  · exact ht.output.trans (hg.output.trans hbs.output)
  · exact (h3 k (by omega) hn (by omega)).trans ((hg.block k (by omega) (fun e => hx ((own_addr ao 0 0 n cap).trans e.symm))).trans (hbs.block k hk))

theorem letters_at {w : World} {a : Option Addr} {n : Nat} {ls : List L3} (hr : RowN w a 3 n (ls.flatMap L3.cells)) (hs : ls.length = n) (k : Nat) (hk : k < n) (l : L3) (hl : ls[k]? = some l) :
    ∃ b off, a = some ⟨b, off, none⟩ ∧ w.cell? ⟨b, off + k * 3, none⟩ = some (.int .i64 l.f) ∧ w.cell? ⟨b, off + k * 3 + 1, none⟩ = some (.int .i64 l.t) ∧ w.cell? ⟨b, off + k * 3 + 2, none⟩ = some (.slice l.s.a l.s.len l.s.cap) := by
  obtain ⟨b, off, ha, hc⟩ := hr.2 (by omega)
  have hcell : ∀ i u, i < 3 → l.cells[i]? = some u → (ls.flatMap L3.cells)[k * 3 + i]? = some u := fun i u hi hu => by
    have h1 : ((ls.flatMap L3.cells).drop (k * 3))[i]? = some u := by
      rw [drop3, List.drop_eq_getElem_cons (show k < ls.length by omega), List.flatMap_cons, List.getElem?_append_left (by simp [L3.cells]; omega)]
      have : ls[k]'(by omega) = l := (List.getElem?_eq_some_iff.1 hl).2
      rw [this]
      exact hu
    rwa [List.getElem?_drop] at h1
  exact ⟨b, off, ha, hc _ _ (hcell 0 _ (by omega) rfl), by rw [Nat.add_assoc]; exact hc _ _ (hcell 1 _ (by omega) rfl), by rw [Nat.add_assoc]; exact hc _ _ (hcell 2 _ (by omega) rfl)⟩

set_option maxRecDepth 100000 in
set_option maxHeartbeats 3200000 in
theorem take_no (N : Nat) (most : Int) (ls : List L3) (ao : Option Addr) (n cap : Nat) (i : Int) (w : World) (h : NetAt w N most ls ao n cap) (hi : ¬ (0 ≤ i ∧ i < n)) :
    Calls Try.prog 9 #[.pointer (some ⟨N, 0, none⟩), .int .i64 i] w fun e w' => e = .returned (.tuple #[.agg #[.int .i64 0, .int .i64 0, .slice none 0 0], .bool false]) ∧ Below w.heap.size w w' := by
  have ht := fun w' (h' : NetAt w' N most ls ao n cap) => there_any N most ls ao n cap i w' h'
  have hX := h.below ((Below.refl _ _).alloc (Nat.le_refl _) (.cells #[.int .i64 0, .int .i64 0, .slice none 0 0] 30))
  have HT := Lib.hid ht
  have HX := Lib.hid hX
  have HI := Lib.hid (decide_eq_false hi)
  clear h ht hX hi
  go_enter Try.func9, Try.ntmps9
  go_wp2_with fail
  refine (HT.out _ HX.out).mono ?_
  rintro e w1 ⟨rfl, rfl⟩
  rw [HI.out]
  go_wp2_with fail
  exact bodyPost_ret (results_cell_tmp Try.results9 rfl (load_three (heap_alloc_new w _))) rfl ⟨rfl, (Below.refl _ _).alloc (Nat.le_refl _) _⟩

set_option maxRecDepth 100000 in
set_option maxHeartbeats 3200000 in
theorem take_ok (N : Nat) (most : Int) (ls : List L3) (ao : Option Addr) (n cap i : Nat) (l : L3) (w : World) (h : NetAt w N most ls ao n cap) (hi : i < n) (hl : ls[i]? = some l) (hn : n ≤ 1000000000) :
    Calls Try.prog 9 #[.pointer (some ⟨N, 0, none⟩), .int .i64 i] w fun e w' => e = .returned (.tuple #[.agg #[.int .i64 l.f, .int .i64 l.t, .slice l.s.a l.s.len l.s.cap], .bool true]) ∧
      NetAt w' N most (ls.eraseIdx i) ao (n - 1) cap ∧ NStep w w' N ao ao ∧ ∀ l' ∈ ls, Own8 w' (N + 1) l'.s.a l'.s.len l'.s.cap l'.s.bs := by
  have hNl := lt_of_block h.cell
  have ht := fun w' (h' : NetAt w' N most ls ao n cap) => there_any N most ls ao n cap i w' h'
  have hX := h.below ((Below.refl _ _).alloc (Nat.le_refl _) (.cells #[.int .i64 0, .int .i64 0, .slice none 0 0] 30))
  have hY := h.below (takeBox_below w l)
  obtain ⟨b, off, hao, hc0, hc1, hc2⟩ := letters_at (RowN.of_own hX.row) hX.len i hi l hl
  have hdel := delete_any (N + 1) ao n cap i ls (takeBox w l) hY.row hY.len hi hn
  obtain ⟨x0, x1, y0, y1⟩ := two_cells hX.cell
  obtain ⟨x0', x1', y0', y1'⟩ := two_cells hY.cell
  have hin : (i : Int) < (n : Int) := by omega
  have hi0 : (0 : Int) ≤ (i : Int) := by omega
  have HT := Lib.hid ht
  have H := Lib.hid h
  have HX := Lib.hid hX
  have HDEL := Lib.hid hdel
  have HI := Lib.hid (decide_eq_true (p := (0 : Int) ≤ (i : Int) ∧ (i : Int) < (n : Int)) ⟨hi0, hin⟩)
  have HAO := Lib.hid hao
  clear h ht hX hY hdel hl
  subst hao
  go_enter Try.func9, Try.ntmps9
  go_wp2_with fail
  refine (HT.out _ HX.out).mono ?_
  rintro e w1 ⟨rfl, rfl⟩
  rw [HI.out]
  go_wp2_with fail
  refine HDEL.out.mono ?_
  rintro e w2 ⟨rfl, hrow2, hg2⟩
  have hz2 := hg2.size
  have hbz := takeBox_size w l
  have hrl := (H.out.row).lt
  have hA := (hg2.block w.heap.size (by omega) (fun e => by have := (hrl _ e.symm).2; omega)).trans (takeBox_a w l)
  have hB := (hg2.block (w.heap.size + 1) (by omega) (fun e => by have := (hrl _ e.symm).2; omega)).trans (takeBox_b w l)
  have hN2 := (hg2.block N (by omega) (fun e => by have := (hrl _ e.symm).1; omega)).trans (H.out.below (takeBox_below w l)).cell
  obtain ⟨a0, a1, a2, g0, g1, g2⟩ := three_cells hA
  obtain ⟨b0, b1, b2, k0, k1, k2⟩ := three_cells hB
  obtain ⟨m0, m1, p0, p1⟩ := two_cells hN2
  have hne : N ≠ w.heap.size := by omega
  have hne2 : N ≠ w.heap.size + 1 := by omega
  have HA := Lib.hid hA
  have HG2 := Lib.hid hg2
  have HROW2 := Lib.hid hrow2
  clear hA hB hN2 hg2 hrow2 hrl
  go_wp2_with fail
  have hF := set_block (i := 2) (set_block (i := 1) (set_block (i := 0) ((Below.heap_setCell w2 ⟨N, 1, none⟩ (.slice (some ⟨b, off, none⟩) (n - 1) cap) w.heap.size (by simp; omega)).trans HA.out) (.int .i64 l.f)) (.int .i64 l.t)) (.slice l.s.a l.s.len l.s.cap)
  exact bodyPost_ret (results_cell_tmp Try.results9 rfl (load_three (c0 := .int .i64 l.f) (c1 := .int .i64 l.t) (c2 := .slice l.s.a l.s.len l.s.cap) hF)) rfl ⟨rfl, net_erase H.out HG2.out HROW2.out hi (touch_three _ _ _ (by simp) _ _ _)⟩

set_option maxRecDepth 100000 in
set_option maxHeartbeats 3200000 in
theorem drop_no (N : Nat) (most : Int) (ls : List L3) (ao : Option Addr) (n cap : Nat) (i : Int) (w : World) (h : NetAt w N most ls ao n cap) (hi : ¬ (0 ≤ i ∧ i < n)) :
    Calls Try.prog 12 #[.pointer (some ⟨N, 0, none⟩), .int .i64 i] w fun e w' => e = .returned (.bool false) ∧ Below w.heap.size w w' := by
  have HT := Lib.hid (take_no N most ls ao n cap i w h hi)
  clear h hi
  go_enter Try.func12, Try.ntmps12
  go_wp2_with fail
  refine HT.out.mono ?_
  rintro e w1 ⟨rfl, hb⟩
  go_wp2_with fail
  go_ret
  exact ⟨rfl, hb.alloc hb.size _⟩
theorem drop_ok (N : Nat) (most : Int) (ls : List L3) (ao : Option Addr) (n cap i : Nat) (l : L3) (w : World) (h : NetAt w N most ls ao n cap) (hi : i < n) (hl : ls[i]? = some l) (hn : n ≤ 1000000000) :
    Calls Try.prog 12 #[.pointer (some ⟨N, 0, none⟩), .int .i64 i] w fun e w' => e = .returned (.bool true) ∧ NetAt w' N most (ls.eraseIdx i) ao (n - 1) cap ∧ NStep w w' N ao ao := by
  have HT := Lib.hid (take_ok N most ls ao n cap i l w h hi hl hn)
  clear h hi hl
  go_enter Try.func12, Try.ntmps12
  go_wp2_with fail
  refine HT.out.mono ?_
  rintro e w1 ⟨rfl, hN, hs, _⟩
  go_wp2_with fail
  go_ret
  exact ⟨rfl, hN.below ((Below.refl _ _).alloc (Nat.le_refl _) _), hs.trans (NStep.of_below ((Below.refl _ _).alloc (Nat.le_refl _) _))⟩
end Go.Proofs.Ytnjbhjgihcgefaa
