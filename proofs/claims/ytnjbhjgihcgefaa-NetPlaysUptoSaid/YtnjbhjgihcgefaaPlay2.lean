/- NetPlays: the document's box is written over. -/
import Derived.Test.YtnjbhjgihcgefaaPlay1
namespace Go.Proofs.Ytnjbhjgihcgefaa
open Go.RowKit

theorem cells2 {w : World} {b : Nat} {cs : Array Value} {T : TypeId} {fr : Nat × Nat} {c0 c1 : Value} (h : w.heap[b]? = some (.cells cs T fr)) (e : cs = #[c0, c1]) : w.cell? ⟨b, 0, none⟩ = some c0 ∧ w.cell? ⟨b, 1, none⟩ = some c1 := by
  subst e
  exact ⟨by simp [World.cell?, h], by simp [World.cell?, h]⟩
theorem cells3 {w : World} {b : Nat} {cs : Array Value} {T : TypeId} {fr : Nat × Nat} {c0 c1 c2 : Value} (h : w.heap[b]? = some (.cells cs T fr)) (e : cs = #[c0, c1, c2]) : w.cell? ⟨b, 0, none⟩ = some c0 ∧ w.cell? ⟨b, 1, none⟩ = some c1 ∧ w.cell? ⟨b, 2, none⟩ = some c2 := by
  subst e
  exact ⟨by simp [World.cell?, h], by simp [World.cell?, h], by simp [World.cell?, h]⟩
theorem set_far {w : World} {g g' i : Nat} {v : Value} {o : Option Obj} (h : w.heap[g]? = o) (hn : g ≠ g') : (w.setCell ⟨g', i, none⟩ v).heap[g]? = o := (Below.heap_setCell w _ v g (by simpa using fun e => hn e)).trans h
theorem alloc_far {w : World} {g : Nat} {o' : Obj} {o : Option Obj} (h : w.heap[g]? = o) (hn : g < w.heap.size) : (w.alloc o').heap[g]? = o := (heap_alloc_old w o' hn).trans h
theorem Row8.ne_box {w : World} {a : Option Addr} {len B : Nat} {bs : List UInt8} {x : Int} {y : Option Addr} {n c : Nat} {T : TypeId} {fr : Nat × Nat} (h : Row8 w a len bs) (hB : w.heap[B]? = some (.cells #[.int .i64 x, .slice y n c] T fr)) (b off : Nat) (e : a = some ⟨b, off, none⟩) (hl : 0 < len) : b ≠ B := fun hb => by
  obtain ⟨b', off', ha, hc⟩ := h.2 0 hl
  rw [e] at ha
  injection ha with ha
  injection ha with h1 h2 _
  subst h1 h2 hb
  simp only [World.cell?, hB, Nat.add_zero] at hc
  match off, hc with
  | 0, hc => simp at hc
  | 1, hc => simp at hc
  | k + 2, hc => simp at hc
theorem NetAt.box {w w' : World} {N B : Nat} {most : Int} {ls : List L3} {ao : Option Addr} {n cap : Nat} {cs : Array Value} (h : NetAt w N most ls ao n cap) (hB : w.heap[B]? = some (.cells cs 40 (0, 0))) (hne : N ≠ B) (ht : Touch [B] w w') : NetAt w' N most ls ao n cap :=
  ⟨(ht.block N (lt_of_block h.cell) (by simpa using hne)).trans h.cell, h.len, own_keep h.row fun g hg hl => ht.block g hl (fun hm => own_ne h.row hB (by decide) (by simp at hm; rw [← hm]; exact hg)), fun v hv => own_keep (h.own v hv) fun g hg hl => ht.block g hl (fun hm => own_ne (h.own v hv) hB (by decide) (by simp at hm; rw [← hm]; exact hg))⟩
/-- the document's box is written over -/
theorem PlayAt.put {w : World} {N B most : Nat} {ls us : List L3} {ao ar : Option Addr} {n cn cr : Nat} {c0 c1 : Value} (hN : NetAt w N most ls ao n cn) (hB : w.heap[B]? = some (.cells #[c0, c1] 40 (0, 0))) (hR : RefAt w (Far N B ao) us ar n) (hs : ls.map L3.says = us.map L3.says) (hne : N ≠ B) (hc : n ≤ most) (hsm : ∀ x ∈ ls.map L3.says, x.2.2.length ≤ 1048576) :
    PlayAt ((w.setCell ⟨B, 0, none⟩ (.int .i64 most)).setCell ⟨B, 1, none⟩ (.slice ar n cr)) N B most ls us ao ar n cn cr ∧ Touch [B] w ((w.setCell ⟨B, 0, none⟩ (.int .i64 most)).setCell ⟨B, 1, none⟩ (.slice ar n cr)) := by
  have ht : Touch [B] w ((w.setCell ⟨B, 0, none⟩ (.int .i64 most)).setCell ⟨B, 1, none⟩ (.slice ar n cr)) := touch_set (touch_set (Touch.refl _ _) _ _ _ (by simp)) _ _ _ (by simp)
  exact ⟨⟨hN.box hB hne ht, set_block (i := 1) (set_block (i := 0) hB _) _, hR.touch ht (fun b hb hm => hb.2.1 (by simpa using hm)), hs, hne, hc, hsm⟩, ht⟩
end Go.Proofs.Ytnjbhjgihcgefaa
