/- The document's DropTo. -/
import Derived.Test.YtpaommkjafdghaaRm6
namespace Go.Proofs.Ytpaommkjafdghaa
open Go.RowKit

def RDrop (P : Nat → Prop) (w : World) (i t : Int) (cs : List Int × List Int) (us : List En) (e : Ending) (w' : World) : Prop :=
  ∃ (c : Cf) (ao : Option Addr) (cap : Nat), e = .returned (.tuple #[.agg #[.int .i64 i, .int .i64 t, .slice c.v.a c.v.len c.v.cap, .slice c.l.a c.l.len c.l.cap, .slice ao us.length cap], .int .i64 0]) ∧ c.says = cs ∧ c.ok w' ∧ CfP P c ∧
    w'.ownsRow w.heap.size 32 4 (.slice ao us.length cap) us.length (us.flatMap En.cells) ∧ Below w.heap.size w w'

set_option maxRecDepth 100000 in
set_option maxHeartbeats 6400000 in
theorem rdropTo_no (ix tm : Int) (c : Cf) (a : Option Addr) (n cap : Nat) (es : List En) (i : Int) (w : World) (h : EnR w es a n) (hs : Sound ix tm es) (hn : n ≤ 1099511627776) (hok : (termOf ix tm es i).2 = false) :
    Calls Try.prog 27 #[.agg #[.int .i64 ix, .int .i64 tm, .slice c.v.a c.v.len c.v.cap, .slice c.l.a c.l.len c.l.cap, .slice a n cap], .int .i64 i] w (RetSame w ix tm c a n cap 1) := by
  obtain ⟨X, hX⟩ : ∃ X, X = boxes w ix tm c a n cap := ⟨_, rfl⟩
  obtain ⟨hXb, hXs, hXc⟩ := boxes_is hX
  have ht := rterm_any ix tm c a n cap es i X (h.below hXb) hs (by omega)
  obtain ⟨t, ht0⟩ : ∃ t, t = termOf ix tm es i := ⟨_, rfl⟩
  rw [← ht0] at ht hok
  obtain ⟨tt, tb⟩ := t
  simp only at hok
  subst hok
  simp only at ht
  have HT := Lib.hid ht
  have HXB := Lib.hid hXb
  have HXS := Lib.hid hXs
  have HXC := Lib.hid hXc
  have HX := Lib.hid hX
  clear ht h hs ht0 hXb hXs hXc hX
  go_enter Try.func27, Try.ntmps27
  go_wp2_with fail
  have hx := HX.out
  unfold boxes at hx
  rw [← hx]
  clear hx
  refine HT.out.mono ?_
  rintro e w3 ⟨rfl, hb3⟩
  obtain ⟨hc1, hc2⟩ := HXC.out _ hb3
  obtain ⟨⟨b0, b1, b2, b3, b4⟩, f0, f1, f2, f3, f4⟩ := five_cells hc1
  obtain ⟨⟨d0, d1, d2, d3, d4⟩, g0, g1, g2, g3, g4⟩ := five_cells hc2
  have HC2 := Lib.hid hc2
  have HBX3 := Lib.hid hb3
  clear hb3 hc1 hc2
  go_wp2_with fail
  have ht : Touch [w.heap.size + 1] w3 (put5 w3 (w.heap.size + 1) (.int .i64 ix) (.int .i64 tm) (.slice c.v.a c.v.len c.v.cap) (.slice c.l.a c.l.len c.l.cap) (.slice a n cap)) := put5_touch (Touch.refl _ _) (by simp)
  have hbz : Below w.heap.size w _ := ht.below (below_then HXB.out HBX3.out) (by have := HBX3.out.size; have := HXS.out; omega) (fun k hk => by simp at hk; omega)
  exact bodyPost_ret (results_cell_tmp Try.results27 rfl (load_rlog (put5_block HC2.out))) rfl ⟨rfl, hbz⟩

set_option maxRecDepth 100000 in
set_option maxHeartbeats 6400000 in
theorem rdropTo_any (P : Nat → Prop) (ix tm : Int) (c : Cf) (a : Option Addr) (n cap : Nat) (es : List En) (i : Int) (w : World) (h : EnR w es a n) (hue : ∀ u ∈ es, Sl.ok w u.s) (hc : c.ok w) (hP : CfP P c) (hnew : ∀ b, w.heap.size ≤ b → P b) (hA : AllR es) (hs : Sound ix tm es) (hn : n ≤ 1099511627776) (hok : (termOf ix tm es i).2 = true) :
    Calls Try.prog 27 #[.agg #[.int .i64 ix, .int .i64 tm, .slice c.v.a c.v.len c.v.cap, .slice c.l.a c.l.len c.l.cap, .slice a n cap], .int .i64 i] w (RDrop P w i (termOf ix tm es i).1 (confAtOf ix c.says es i).1 (es.drop (i - ix).toNat)) := by
  obtain ⟨X, hX⟩ : ∃ X, X = boxes w ix tm c a n cap := ⟨_, rfl⟩
  obtain ⟨hXb, hXs, hXc⟩ := boxes_is hX
  have hri : ix ≤ i ∧ i ≤ ix + n := by
    unfold termOf at hok
    rw [h.len] at hok
    split at hok
    · cases hok
    · omega
  have hrx := hs.rx
  have ht := rterm_any ix tm c a n cap es i X (h.below hXb) hs (by omega)
  have hcP : CfP (fun b => P b ∧ b ≠ w.heap.size + 1) c := ⟨fun b o e hn => ⟨hP.1 b o e hn, by have : b < w.heap.size := hc.low.1 b o e hn; omega⟩, fun b o e hn => ⟨hP.2 b o e hn, by have : b < w.heap.size := hc.low.2 b o e hn; omega⟩⟩
  have hcf := fun Z (hZ' : Below X.heap.size X Z) => have hZ := below_then hXb hZ'; rconfAt_any (fun b => P b ∧ b ≠ w.heap.size + 1) ix tm c a n cap es i Z (h.below hZ) (fun u hu => (hue u hu).below hZ) (hc.below hZ) hcP (fun b hb => ⟨hnew b (Nat.le_trans hZ.size hb), by have := hZ'.size; omega⟩) hA hn
  have hla := fun Z (hZ : Below w.heap.size w Z) => rlast_any ix tm c a n cap es Z (h.below hZ) (by omega)
  have hpt := fun Z (hZ : Below w.heap.size w Z) => rpart_any ix tm c a n cap es (i + 1) (lastOf ix tm es).1 Z (h.below hZ) hn
  rw [part_high hs (i + 1) _ hs.last, show i + 1 - ix - 1 = i - ix from by omega] at hpt
  have hw1 : IntKind.i64.wrap (i + 1) = i + 1 := by rw [IntKind.wrap_i64] <;> omega
  obtain ⟨t, ht0⟩ : ∃ t, t = termOf ix tm es i := ⟨_, rfl⟩
  rw [← ht0] at ht hok ⊢
  obtain ⟨tt, tb⟩ := t
  simp only at hok
  subst hok
  simp only at ht ⊢
  obtain ⟨p, hp⟩ : ∃ p, p = lastOf ix tm es := ⟨_, rfl⟩
  rw [← hp] at hla hpt
  obtain ⟨li, lt⟩ := p
  simp only at hla hpt
  obtain ⟨us, hus⟩ : ∃ us, us = es.drop (i - ix).toNat := ⟨_, rfl⟩
  rw [← hus] at hpt ⊢
  obtain ⟨r, hr⟩ : ∃ r, r = confAtOf ix c.says es i := ⟨_, rfl⟩
  rw [← hr] at hcf ⊢
  have HT := Lib.hid ht
  have HCF := Lib.hid hcf
  have HLA := Lib.hid hla
  have HPT := Lib.hid hpt
  have HXB := Lib.hid hXb
  have HXS := Lib.hid hXs
  have HXC := Lib.hid hXc
  have HX := Lib.hid hX
  clear ht hcf hcP hla hpt h hue hc hP hnew hA hs ht0 hp hus hr hXb hXs hXc hX hri hrx
  go_enter Try.func27, Try.ntmps27
  go_wp2_with fail
  have hx := HX.out
  unfold boxes at hx
  rw [← hx]
  clear hx
  refine HT.out.mono ?_
  rintro e w3 ⟨rfl, hb3⟩
  obtain ⟨hc1, hc2⟩ := HXC.out _ hb3
  obtain ⟨⟨b0, b1, b2, b3, b4⟩, _⟩ := five_cells hc1
  have HBX3 := Lib.hid hb3
  clear hb3 hc1 hc2
  go_wp2_with fail
  refine (HCF.out _ HBX3.out).mono ?_
  rintro e w4 ⟨c2, rfl, hsay, hok2, hp2, hb4⟩
  have HB4 := Lib.hid (below_then HBX3.out hb4)
  obtain ⟨Y, hY⟩ : ∃ Y, Y = w4.alloc (.cells #[.slice c2.v.a c2.v.len c2.v.cap, .slice c2.l.a c2.l.len c2.l.cap] 27) := ⟨_, rfl⟩
  have hbY : Below w4.heap.size w4 Y := hY ▸ below_alloc (Below.refl _ _) _
  have hYb : Y.heap[w4.heap.size]? = some (.cells #[.slice c2.v.a c2.v.len c2.v.cap, .slice c2.l.a c2.l.len c2.l.cap] 27 (0, 0)) := hY ▸ heap_alloc_new w4 _
  have HY := Lib.hid hY
  have HBY := Lib.hid (below_then HB4.out hbY)
  have HYB := Lib.hid hYb
  have HK2 := Lib.hid (hok2.below hbY)
  have HSAY := Lib.hid hsay
  have HP2 := Lib.hid hp2
  clear hY hbY hYb hok2 hsay hp2 hb4
  obtain ⟨hc1, hc2⟩ := HXC.out _ HBY.out
  have hq := fun o => (five_cells (show (w4.alloc o).heap[w.heap.size]? = _ from alloc_far ((HXC.out _ HB4.out).1) (lt_of_block (HXC.out _ HB4.out).1))).1
  have q0 := fun o => (hq o).1
  have q1 := fun o => (hq o).2.1
  have q2 := fun o => (hq o).2.2.1
  have q3 := fun o => (hq o).2.2.2.1
  have q4 := fun o => (hq o).2.2.2.2
  clear b0 b1 b2 b3 b4 hc1 hc2 hq
  go_wp2_with fail
  rw [← HY.out]
  refine (HLA.out _ (below_then HXB.out HBY.out)).mono ?_
  rintro e w5 ⟨rfl, hb5⟩
  have HB5 := Lib.hid (below_then HBY.out hb5)
  have HK5 := Lib.hid (HK2.out.below hb5)
  have HYB5 := Lib.hid ((hb5.block _ (lt_of_block HYB.out)).trans HYB.out)
  clear hb5 q0 q1 q2 q3 q4
  have hXX : ∀ V, Below w5.heap.size w5 V → (V.heap[w.heap.size]? = some (.cells #[.int .i64 ix, .int .i64 tm, .slice c.v.a c.v.len c.v.cap, .slice c.l.a c.l.len c.l.cap, .slice a n cap] 53 (0, 0)) ∧ V.heap[w.heap.size + 1]? = some (.cells #[.int .i64 0, .int .i64 0, .slice none 0 0, .slice none 0 0, .slice none 0 0] 53 (0, 0))) ∧ V.heap[w4.heap.size]? = some (.cells #[.slice c2.v.a c2.v.len c2.v.cap, .slice c2.l.a c2.l.len c2.l.cap] 27 (0, 0)) := fun V hV => ⟨HXC.out _ (below_then HB5.out hV), (hV.block _ (lt_of_block HYB5.out)).trans HYB5.out⟩
  obtain ⟨⟨hc1, hc2⟩, hc3⟩ := hXX w5 (Below.refl _ _)
  obtain ⟨⟨b0, b1, b2, b3, b4⟩, _⟩ := five_cells hc1
  obtain ⟨z0, z1, _, _⟩ := two_cells hc3
  have HXX := Lib.hid hXX
  have hlt4 : w.heap.size + 1 < w4.heap.size := by have := HXS.out; have := HB4.out.size; omega
  have n1 : w4.heap.size ≠ w.heap.size := by omega
  have n2 : w4.heap.size ≠ w.heap.size + 1 := by omega
  clear hXX hc1 hc2 hc3
  go_wp2_with fail
  go_region_law (first
    | (go_simp; go_at_call 39; refine (HPT.out _ ((below_then HXB.out HB5.out).trans ((Below.refl _ _).drew.mono (by have := HB5.out.size; have := HXB.out.size; omega)))).mono ?_; rintro e w6 ⟨ao, cq, rfl, hown6, hb6⟩
       have hb6' : Below w5.heap.size w5 w6 := below_then (Below.refl _ _).drew hb6
       obtain ⟨⟨hc1, hc2⟩, hc3⟩ := HXX.out _ hb6'
       obtain ⟨⟨r0, r1, r2, r3, r4⟩, _⟩ := five_cells hc1
       obtain ⟨⟨d0, d1, d2, d3, d4⟩, g0, g1, g2, g3, g4⟩ := five_cells hc2
       obtain ⟨y0, y1, _, _⟩ := two_cells hc3))
  all_goals
    have hb56 := below_then HB5.out hb6'
    have HB6 := Lib.hid hb56
    have HO6 := Lib.hid hown6
    have HC2 := Lib.hid hc2
    have HK6 := Lib.hid (HK5.out.below hb6')
    clear hb6 hb6' hb56 hown6 hc1 hc2 hc3 HXX
    go_wp2_with fail
    have ht : Touch [w.heap.size + 1] w6 (put5 w6 (w.heap.size + 1) (.int .i64 i) (.int .i64 tt) (.slice c2.v.a c2.v.len c2.v.cap) (.slice c2.l.a c2.l.len c2.l.cap) (.slice ao us.length cq)) := put5_touch (Touch.refl _ _) (by simp)
    have hxs := HXS.out
    have hbz : Below w.heap.size w _ := ht.below (below_then HXB.out HB6.out) (by have := HB6.out.size; omega) (fun k hk => by simp at hk; omega)
    have hz5 := HB5.out.size
    have hown2 := own_keep HO6.out fun g hg hl => ht.block g hl (by have := (HO6.out.lt g hg).1; simp at this ⊢; omega)
    exact bodyPost_ret (results_cell_tmp Try.results27 rfl (load_rlog (put5_block HC2.out))) rfl ⟨c2, ao, cq, rfl, HSAY.out, HK6.out.touch HP2.out ht (fun b hb hm => by simp at hm; exact hb.2 hm), HP2.out.mono (fun b hb => hb.1), own_more hown2 (by simp; omega), hbz⟩
end Go.Proofs.Ytpaommkjafdghaa
