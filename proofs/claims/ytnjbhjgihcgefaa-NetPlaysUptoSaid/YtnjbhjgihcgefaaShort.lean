/- Short; Swap where it does nothing. -/
import Derived.Test.YtnjbhjgihcgefaaAll
import Derived.StillTailTactics
namespace Go.Proofs.Ytnjbhjgihcgefaa
open Go.RowKit

theorem cells_set1 (ls : List L3) : ∀ (i : Nat) (l : L3) (s : Sl), ls[i]? = some l → (ls.set i ⟨l.f, l.t, s⟩).flatMap L3.cells = (ls.flatMap L3.cells).set (i * 3 + 2) s.val := by
  induction ls with
  | nil => intro i l s h; simp at h
  | cons x r ih =>
    intro i l s h
    cases i with
    | zero =>
      simp only [List.getElem?_cons_zero, Option.some.injEq] at h
      subst h
      simp [L3.cells, Sl.val]
    | succ i =>
      rw [List.getElem?_cons_succ] at h
      rw [List.set_cons_succ, List.flatMap_cons, ih i l s h, List.flatMap_cons]
      simp only [L3.cells, List.cons_append, List.nil_append, show (i + 1) * 3 + 2 = i * 3 + 2 + 2 + 1 from by omega, List.set_cons_succ]
theorem own8_shrink {w : World} {base K c : Nat} {a : Option Addr} {bs : List UInt8} (h : Own8 w base a (K + 1) c bs) : Own8 w base a K c bs.dropLast := by
  have hl := h.length
  rcases h.2 with ⟨_, h0⟩ | ⟨g, cp, cur, hv, hb, hg, hnc, hcm, hsz, ht⟩
  · omega
  · injection hv with h1 h2 h3
    subst h1 h3
    refine ⟨by rw [cells8_length, List.length_dropLast]; omega, .inr ⟨g, c, cur, rfl, hb, hg, by omega, hcm, hsz, ?_⟩⟩
    have e : cells8 bs.dropLast = (cells8 bs).take K := by
      rw [cells8, cells8, ← List.map_take, List.dropLast_eq_take, hl]
      rfl
    rw [e, ← ht, List.take_take, Nat.mul_one, show min K ((K + 1) * 1) = K from by omega]
theorem net_short {w : World} {N n cap i b K : Nat} {most : Int} {ls : List L3} {l : L3} (h : NetAt w N most ls (some ⟨b, 0, none⟩) n cap) (_hi : i < n) (hl : ls[i]? = some l) (hK : l.s.len = K + 1) :
    NetAt (w.setCell ⟨b, i * 3 + 2, none⟩ (.slice l.s.a K l.s.cap)).drew N most (ls.set i ⟨l.f, l.t, ⟨l.s.a, K, l.s.cap, l.s.bs.dropLast⟩⟩) (some ⟨b, 0, none⟩) n cap ∧ NStep w (w.setCell ⟨b, i * 3 + 2, none⟩ (.slice l.s.a K l.s.cap)).drew N (some ⟨b, 0, none⟩) (some ⟨b, 0, none⟩) := by
  have hNb : N + 1 ≤ b := (h.row.lt b rfl).1
  have ht : Touch [b] w (w.setCell ⟨b, i * 3 + 2, none⟩ (.slice l.s.a K l.s.cap)).drew := Touch.drew (Touch.set w _ _ _ (by simp))
  have hrow := (World.ownsRow.stored h.row (i * 3 + 2) (.slice l.s.a K l.s.cap)).1
  have hNl := lt_of_block h.cell
  refine ⟨⟨(ht.block N hNl (by simp; omega)).trans h.cell, by rw [List.length_set]; exact h.len, ?_, fun u hu => ?_⟩, ⟨ht.os, ht.tape, ht.output, ht.size, fun g hg _ hx => ht.block g hg (fun hi => hx (by simp at hi; rw [hi]; rfl)), fun _ h => .inl h⟩⟩
  · rw [cells_set1 ls i l _ hl]
    exact hrow
  · have k : ∀ (a : Option Addr) (len c : Nat) (bs : List UInt8), Own8 w (N + 1) a len c bs → Own8 (w.setCell ⟨b, i * 3 + 2, none⟩ (.slice l.s.a K l.s.cap)).drew (N + 1) a len c bs := fun a len c bs ho => own_keep ho fun g hg hl => ht.block g hl (fun hi => own_apart ho h.row (by decide) g hg (by simp at hi; rw [hi]; rfl))
    rcases List.mem_or_eq_of_mem_set hu with hu | rfl
    · exact k _ _ _ _ (h.own u hu)
    · have ho := h.own l (List.mem_of_getElem? hl)
      rw [hK] at ho
      exact k _ _ _ _ (own8_shrink ho)

set_option maxRecDepth 100000 in
set_option maxHeartbeats 3200000 in
theorem short_ok (N : Nat) (most : Int) (ls : List L3) (ao : Option Addr) (n cap i : Nat) (l : L3) (w : World) (h : NetAt w N most ls ao n cap) (hi : i < n) (hl : ls[i]? = some l) (hlen : 0 < l.s.len) :
    Calls Try.prog 25 #[.pointer (some ⟨N, 0, none⟩), .int .i64 i] w fun e w' => e = .returned (.bool true) ∧ NetAt w' N most (ls.set i ⟨l.f, l.t, ⟨l.s.a, l.s.len - 1, l.s.cap, l.s.bs.dropLast⟩⟩) ao n cap ∧ NStep w w' N ao ao := by
  have hti := there_any N most ls ao n cap i w h
  rw [decide_eq_true (p := (0 : Int) ≤ (i : Int) ∧ (i : Int) < (n : Int)) ⟨by omega, by omega⟩] at hti
  obtain ⟨b, off, hao, hc0, hc1, hc2⟩ := letters_at (RowN.of_own h.row) h.len i hi l hl
  obtain ⟨g, cp, cur, hv, hbg⟩ : ∃ g cp cur, Value.slice ao n cap = .slice (some ⟨g, 0, none⟩) n cp ∧ N + 1 ≤ g ∧ w.heap[g]? = some (.cells cur 30 (0, 0)) := by
    rcases h.row.2 with ⟨_, h0⟩ | ⟨g, cp, cur, hv, hbg, hg, _⟩
    · omega
    · exact ⟨g, cp, cur, hv, hbg, hg⟩
  injection hv with hv1 hvn hvc
  clear hvn
  subst hvc
  rw [hao] at hv1
  injection hv1 with hv1
  injection hv1 with e1 e2 _
  subst e1 e2
  subst hao
  have hol := h.own l (List.mem_of_getElem? hl)
  have hlc := hol.cap
  have hcm : l.s.cap ≤ 9223372036854775807 := by simpa [maxLen] using hlc.2
  have hfr : ∀ j, w.frozen? ⟨b, j, none⟩ = false := fun j => by simp [World.frozen?, hbg.2]
  obtain ⟨x0, x1, y0, y1⟩ := two_cells h.cell
  have hne' : b ≠ N := by omega
  have hin : (i : Int) < (n : Int) := by omega
  have hi0 : (0 : Int) ≤ (i : Int) := by omega
  rw [Nat.zero_add] at hc0 hc1 hc2
  obtain ⟨K, hK⟩ : ∃ K, l.s.len = K + 1 := ⟨l.s.len - 1, by omega⟩
  have hl0 : (((K + 1 : Nat) : Int) == 0) = false := by simp; omega
  have i1 : (0 : Int) ≤ (K : Int) := by omega
  have i2 : (K : Int) ≤ (l.s.cap : Int) := by omega
  rw [hK] at hc2
  have hKm : (K : Int) ≤ 9223372036854775807 := by omega
  have hwr : IntKind.i64.wrap (K : Int) = (K : Int) := by first | go_num | (rw [IntKind.wrap_i64]; omega)
  have HK := Lib.hid hK
  have HTI := Lib.hid hti
  have H := Lib.hid h
  have HL := Lib.hid hl
  clear h hti hl hK hol hlc hlen
  go_enter Try.func25, Try.ntmps25
  go_wp2_with fail
  refine HTI.out.mono ?_
  rintro e w1 ⟨rfl, rfl⟩
  go_wp2_with fail
  have z1 : ({ heap := w.heap, tape := w.tape, drawn := w.drawn + 1, os := w.os, output := w.output } : World).cell? ⟨N, 1, none⟩ = some (.slice (some ⟨b, 0, none⟩) n cap) := x1
  have z2 : ({ heap := w.heap, tape := w.tape, drawn := w.drawn + 1, os := w.os, output := w.output } : World).cell? ⟨b, i * 3 + 2, none⟩ = some (.slice l.s.a (K + 1) l.s.cap) := hc2
  go_still_tail 24, (by kernel_rfl)
  change wpList _ _ _ _ _ w.drew
  go_wp2_with fail
  go_ret
  refine ⟨rfl, ?_⟩
  rw [show l.s.len - 1 = K from by rw [HK.out]; rfl]
  exact net_short H.out hi HL.out HK.out
end Go.Proofs.Ytnjbhjgihcgefaa
