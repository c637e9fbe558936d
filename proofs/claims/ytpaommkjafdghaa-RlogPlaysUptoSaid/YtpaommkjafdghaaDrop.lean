/- DropTo. -/
import Derived.Test.YtpaommkjafdghaaConf2
namespace Go.Proofs.Ytpaommkjafdghaa
open Go.RowKit

/-- a row from its d-th element on -/
theorem RowN.dropN {w : World} {b off n d : Nat} {es : List En} (h : RowN w (some ⟨b, off, none⟩) 4 n (es.flatMap En.cells)) (hd : d ≤ n) : RowN w (some ⟨b, off + d * 4, none⟩) 4 (n - d) ((es.drop d).flatMap En.cells) := by
  rw [← drop4]
  refine ⟨by rw [List.length_drop, h.1]; omega, fun hn => ?_⟩
  obtain ⟨b', off', e, hc⟩ := h.2 (by omega)
  injection e with e
  injection e with e1 e2 _
  subst e1 e2
  refine ⟨b, off + d * 4, rfl, fun j u hu => ?_⟩
  rw [List.getElem?_drop] at hu
  have := hc _ u hu
  rw [show off + d * 4 + j = off + (d * 4 + j) by omega]
  exact this

/-- a log with another base and other entries -/
theorem log_put {w w3 : World} {base N n cap m c3 B1 B2 : Nat} {ix tm i t : Int} {c c' : Cf} {es es' : List En} {ae a3 : Option Addr} (h : LogAt w base N ix tm c es ae n cap) (hb : Below w.heap.size w w3) (hv : OwnZ w3 B1 c'.v) (hl : OwnZ w3 B1 c'.l) (hB1 : w.heap.size ≤ B1)
    (ho : w3.ownsRow B2 32 4 (.slice a3 m c3) m (es'.flatMap En.cells)) (hB2 : w.heap.size ≤ B2) (hm : ∀ e ∈ es', e ∈ es) (hlen : es'.length = m) :
    LogAt (((((w3.setCell ⟨N, 4, none⟩ (.slice a3 m c3)).setCell ⟨N, 0, none⟩ (.int .i64 i)).setCell ⟨N, 1, none⟩ (.int .i64 t)).setCell ⟨N, 2, none⟩ (.slice c'.v.a c'.v.len c'.v.cap)).setCell ⟨N, 3, none⟩ (.slice c'.l.a c'.l.len c'.l.cap)) base N i t c' es' a3 m c3 ∧
    NStep w (((((w3.setCell ⟨N, 4, none⟩ (.slice a3 m c3)).setCell ⟨N, 0, none⟩ (.int .i64 i)).setCell ⟨N, 1, none⟩ (.int .i64 t)).setCell ⟨N, 2, none⟩ (.slice c'.v.a c'.v.len c'.v.cap)).setCell ⟨N, 3, none⟩ (.slice c'.l.a c'.l.len c'.l.cap)) N ae a3 := by
  have hNl := lt_of_block h.cell
  have hlo := h.lo
  have hc3 := (hb.block N hNl).trans h.cell
  have ht : Touch [N] w3 (((((w3.setCell ⟨N, 4, none⟩ (.slice a3 m c3)).setCell ⟨N, 0, none⟩ (.int .i64 i)).setCell ⟨N, 1, none⟩ (.int .i64 t)).setCell ⟨N, 2, none⟩ (.slice c'.v.a c'.v.len c'.v.cap)).setCell ⟨N, 3, none⟩ (.slice c'.l.a c'.l.len c'.l.cap)) :=
    touch_set (touch_set (touch_set (touch_set (touch_set (Touch.refl _ _) _ _ _ (by simp)) _ _ _ (by simp)) _ _ _ (by simp)) _ _ _ (by simp)) _ _ _ (by simp)
  have k : ∀ {b : Nat} {e : TypeId} {sz : Nat} {v : Value} {q : Nat} {xs : List Value}, w3.ownsRow b e sz v q xs → 67 ≠ e → (((((w3.setCell ⟨N, 4, none⟩ (.slice a3 m c3)).setCell ⟨N, 0, none⟩ (.int .i64 i)).setCell ⟨N, 1, none⟩ (.int .i64 t)).setCell ⟨N, 2, none⟩ (.slice c'.v.a c'.v.len c'.v.cap)).setCell ⟨N, 3, none⟩ (.slice c'.l.a c'.l.len c'.l.cap)).ownsRow b e sz v q xs := fun hr he =>
    own_keep hr fun g hg hgl => ht.block g hgl (fun hmm => own_ne hr hc3 he (by simp at hmm; rw [← hmm]; exact hg))
  refine ⟨⟨hlo, ?_, own_more (k hv (by decide)) (by omega), own_more (k hl (by decide)) (by omega), hlen, own_more (k ho (by decide)) (by omega), fun e he => k (own_keep (h.own e (hm e he)) fun g _ hgl => hb.block g hgl) (by decide)⟩, ⟨ht.os.trans hb.os, ht.tape.trans hb.tape, ht.output.trans hb.output, Nat.le_trans hb.size ht.size, fun j hj hn _ => (ht.block j (Nat.lt_of_lt_of_le hj hb.size) (by simpa using hn)).trans (hb.block j hj), fun g hg => .inr ?_⟩⟩
  · exact set_block (i := 3) (set_block (i := 2) (set_block (i := 1) (set_block (i := 0) (set_block (i := 4) hc3 _) _) _) _) _
  · rw [own_addr a3 0 0 m c3] at hg
    have := (ho.lt g hg).1
    omega

set_option maxRecDepth 100000 in
set_option maxHeartbeats 6400000 in
theorem dropTo_any (base N : Nat) (ix tm : Int) (c : Cf) (es : List En) (ae : Option Addr) (n cap : Nat) (i : Int) (w : World) (h : LogAt w base N ix tm c es ae n cap) (hs : Sound ix tm es) (hn : n ≤ 2000000000000) (hcn : c.v.len ≤ 1000000000000 ∧ c.l.len ≤ 1000000000000) (hok : (termOf ix tm es i).2 = true) :
    Calls Try.prog 12 #[.pointer (some ⟨N, 0, none⟩), .int .i64 i] w fun e w' => e = .returned (.int .i64 0) ∧
      ∃ c' a' cap', c'.says = (confAtOf ix c.says es i).1 ∧ LogAt w' base N i (termOf ix tm es i).1 c' (es.drop (i - ix).toNat) a' (n - (i - ix).toNat) cap' ∧ NStep w w' N ae a' := by
  have hri : ix ≤ i ∧ i ≤ ix + n := by
    unfold termOf at hok
    rw [h.len] at hok
    split at hok
    · cases hok
    · omega
  have hrx := hs.rx
  obtain ⟨d, hd⟩ : ∃ d : Nat, i = ix + d := ⟨(i - ix).toNat, by omega⟩
  have hdt : (i - ix).toNat = d := by omega
  have hdn : d ≤ n := by omega
  rw [hdt]
  have ht := term_any base N ix tm c es ae n cap i w h hs hn
  obtain ⟨t, ht0⟩ : ∃ t, t = termOf ix tm es i := ⟨_, rfl⟩
  rw [← ht0] at ht hok ⊢
  obtain ⟨tt, tb⟩ := t
  simp only at hok
  subst hok
  simp only at ht ⊢
  have hcf := fun Z (hZ : Below w.heap.size w Z) => ConfAt_any base N ix tm c es ae n cap i Z (h.below hZ) hn hcn
  obtain ⟨r, hr⟩ : ∃ r, r = confAtOf ix c.says es i := ⟨_, rfl⟩
  rw [← hr] at hcf ⊢
  have hw1 : IntKind.i64.wrap (i - ix) = (d : Int) := by rw [IntKind.wrap_i64] <;> omega
  have hcap := own_cap h.row
  have hd0 : (0 : Int) ≤ (d : Int) := by omega
  have hdi : (d : Int) ≤ (n : Int) := by omega
  have hnc : (n : Int) ≤ (cap : Int) := by have := hcap.1; omega
  have hdc : (d : Int) ≤ (cap : Int) := by omega
  have HT := Lib.hid ht
  have HCF := Lib.hid hcf
  have H := Lib.hid h
  have HD := Lib.hid hd
  have hNl := lt_of_block h.cell
  clear ht hcf h ht0 hr hd hdt hs hri hrx
  go_enter Try.func12, Try.ntmps12
  go_wp2_with fail
  refine HT.out.mono ?_
  rintro e w1 ⟨rfl, hb1⟩
  have HB1 := Lib.hid hb1
  clear hb1
  go_wp2_with fail
  refine (HCF.out _ HB1.out).mono ?_
  rintro e w2 hc
  obtain ⟨c', rfl, hs, h1, h2, hb⟩ : ∃ c' : Cf, e = .returned (.agg #[.slice c'.v.a c'.v.len c'.v.cap, .slice c'.l.a c'.l.len c'.l.cap]) ∧ c'.says = r.1 ∧ OwnZ w2 w1.heap.size c'.v ∧ OwnZ w2 w1.heap.size c'.l ∧ Below w1.heap.size w1 w2 := hc
  obtain ⟨Y, hY⟩ : ∃ Y, Y = w2.alloc (.cells #[.slice c'.v.a c'.v.len c'.v.cap, .slice c'.l.a c'.l.len c'.l.cap] 27) := ⟨_, rfl⟩
  have hbY : Below w.heap.size w Y := hY ▸ below_alloc (below_then HB1.out hb) _
  have hYb : Y.heap[w2.heap.size]? = some (.cells #[.slice c'.v.a c'.v.len c'.v.cap, .slice c'.l.a c'.l.len c'.l.cap] 27 (0, 0)) := hY ▸ heap_alloc_new w2 _
  have hYs : Y.heap.size = w2.heap.size + 1 := by rw [hY, World.size_alloc]
  have hv : OwnZ Y w1.heap.size c'.v := hY ▸ own_keep h1 fun g _ hl => alloc_far rfl hl
  have hl : OwnZ Y w1.heap.size c'.l := hY ▸ own_keep h2 fun g _ hl => alloc_far rfl hl
  have hz12 := HB1.out.size
  have hzw2 := hb.size
  go_wp2_with fail
  rw [← hY]
  have hLY := H.out.below hbY
  obtain ⟨⟨n0, n1, n2, n3, n4⟩, f0, f1, f2, f3, f4⟩ := five_cells hLY.cell
  have HLY := Lib.hid hLY
  have HBY := Lib.hid hbY
  have HYB := Lib.hid hYb
  have HV := Lib.hid hv
  have HLL := Lib.hid hl
  have HS := Lib.hid hs
  have HYS := Lib.hid hYs
  clear hLY hbY hYb hv hl hs h1 h2 hb hY hYs
  cases ae with
  | none =>
    have hn0 : n = 0 ∧ cap = 0 := by
      have h1 := hcap.2.2 rfl
      omega
    obtain ⟨rfl, rfl⟩ := hn0
    obtain rfl : d = 0 := by omega
    have he : es = [] := List.eq_nil_of_length_eq_zero H.out.len
    subst he
    have hce := fun Z => cloneE_any none 0 0 [] Z (RowN.nil _ _ _) (fun _ => ⟨rfl, rfl⟩) (by omega)
    have HCE := Lib.hid hce
    have hn4 : ∀ Z, Below Y.heap.size Y Z → Z.heap[N]? = some (.cells #[.int .i64 ix, .int .i64 tm, .slice c.v.a c.v.len c.v.cap, .slice c.l.a c.l.len c.l.cap, .slice none 0 0] 67 (0, 0)) := fun Z hZ => (hZ.block N (lt_of_block HLY.out.cell)).trans HLY.out.cell
    have HN4 := Lib.hid hn4
    clear hce hn4
    go_region_law (first
      | (go_simp; go_at_call 34; refine (HCE.out _).mono ?_; rintro e w3 ⟨a3, c3, rfl, ho3, hb3⟩
         have hb3' : Below Y.heap.size Y w3 := below_then (Below.refl _ _).drew hb3
         obtain ⟨⟨m0, m1, m2, m3, m4⟩, g0, g1, g2, g3, g4⟩ := five_cells (HN4.out _ hb3')))
    all_goals
      go_wp2_with fail
      obtain ⟨Z, hZ⟩ : ∃ Z, Z = w3.setCell ⟨N, 4, none⟩ (.slice a3 (0) c3) := ⟨_, rfl⟩
      have hzN := lt_of_block HLY.out.cell
      have hYS := HYS.out
      have hcN : Z.heap[N]? = some (.cells #[.int .i64 ix, .int .i64 tm, .slice c.v.a c.v.len c.v.cap, .slice c.l.a c.l.len c.l.cap, .slice a3 (0) c3] 67 (0, 0)) := hZ ▸ set_block (i := 4) (HN4.out _ hb3') _
      have hcB : Z.heap[w2.heap.size]? = some (.cells #[.slice c'.v.a c'.v.len c'.v.cap, .slice c'.l.a c'.l.len c'.l.cap] 27 (0, 0)) := hZ ▸ set_far ((hb3'.block _ (by omega)).trans HYB.out) (by omega)
      have hput := log_put (i := i) (t := tt) (c' := c') H.out (below_then HBY.out hb3') (own_keep HV.out fun g _ hl => hb3'.block g hl) (own_keep HLL.out fun g _ hl => hb3'.block g hl) hz12 ho3 HBY.out.size (fun e he => he) (by rfl)
      rw [← hZ] at hput ⊢
      clear m0 m1 m2 m3 m4 g0 g1 g2 g3 g4 n0 n1 n2 n3 n4 f0 f1 f2 f3 f4
      obtain ⟨⟨n0, n1, n2, n3, n4⟩, f0, f1, f2, f3, f4⟩ := five_cells hcN
      obtain ⟨x0, x1, _, _⟩ := two_cells hcB
      have e1 : N ≠ w2.heap.size := by omega
      have e2 : w2.heap.size ≠ N := by omega
      have HPUT := Lib.hid hput
      clear hput hZ hcN hcB hYS
      go_region
      go_wp2_with fail
      go_ret
      exact ⟨rfl, c', a3, c3, HS.out, HPUT.out.1.below (Below.refl _ _).drew, HPUT.out.2.trans (NStep.of_below (Below.refl _ _).drew)⟩
  | some ad =>
    obtain ⟨b, hb⟩ : ∃ b, ad = ⟨b, 0, none⟩ := by
      rcases H.out.row.2 with ⟨h1, _⟩ | ⟨g, cp, cur, h1, _⟩
      · cases h1
      · injection h1 with h1 _ _
        injection h1 with h1
        exact ⟨g, h1⟩
    subst hb
    have hn4 : ∀ Z, Below Y.heap.size Y Z → Z.heap[N]? = some (.cells #[.int .i64 ix, .int .i64 tm, .slice c.v.a c.v.len c.v.cap, .slice c.l.a c.l.len c.l.cap, .slice (some ⟨b, 0, none⟩) n cap] 67 (0, 0)) := fun Z hZ => (hZ.block N (lt_of_block HLY.out.cell)).trans HLY.out.cell
    have HN4 := Lib.hid hn4
    clear hn4
    by_cases hcd : cap = d
    · obtain rfl : n = d := by omega
      subst hcd
      have h1 : es.drop cap = [] := List.drop_of_length_le (by have := H.out.len; omega)
      have H1D := Lib.hid h1
      have hce := fun Z (_ : Below Y.heap.size Y Z) => cloneE_any (some ⟨b, 0, none⟩) 0 0 [] Z (RowN.nil _ _ _) (fun e => by cases e) (by omega)
      have HCE := Lib.hid hce
      clear hce h1
      go_region_law (first
        | (go_simp; go_at_call 34; refine (HCE.out _ (Below.refl _ _).drew).mono ?_; rintro e w3 ⟨a3, c3, rfl, ho3, hb3⟩
           have hb3' : Below Y.heap.size Y w3 := below_then (Below.refl _ _).drew hb3
           obtain ⟨⟨m0, m1, m2, m3, m4⟩, g0, g1, g2, g3, g4⟩ := five_cells (HN4.out _ hb3')))
      all_goals
        go_wp2_with fail
        obtain ⟨Z, hZ⟩ : ∃ Z, Z = w3.setCell ⟨N, 4, none⟩ (.slice a3 (0) c3) := ⟨_, rfl⟩
        have hzN := lt_of_block HLY.out.cell
        have hYS := HYS.out
        have hcN : Z.heap[N]? = some (.cells #[.int .i64 ix, .int .i64 tm, .slice c.v.a c.v.len c.v.cap, .slice c.l.a c.l.len c.l.cap, .slice a3 (0) c3] 67 (0, 0)) := hZ ▸ set_block (i := 4) (HN4.out _ hb3') _
        have hcB : Z.heap[w2.heap.size]? = some (.cells #[.slice c'.v.a c'.v.len c'.v.cap, .slice c'.l.a c'.l.len c'.l.cap] 27 (0, 0)) := hZ ▸ set_far ((hb3'.block _ (by omega)).trans HYB.out) (by omega)
        have hput := log_put (i := i) (t := tt) (c' := c') H.out (below_then HBY.out hb3') (own_keep HV.out fun g _ hl => hb3'.block g hl) (own_keep HLL.out fun g _ hl => hb3'.block g hl) hz12 ho3 HBY.out.size (fun e he => by cases he) (by rfl)
        rw [← hZ] at hput ⊢
        clear m0 m1 m2 m3 m4 g0 g1 g2 g3 g4 n0 n1 n2 n3 n4 f0 f1 f2 f3 f4
        obtain ⟨⟨n0, n1, n2, n3, n4⟩, f0, f1, f2, f3, f4⟩ := five_cells hcN
        obtain ⟨x0, x1, _, _⟩ := two_cells hcB
        have e1 : N ≠ w2.heap.size := by omega
        have e2 : w2.heap.size ≠ N := by omega
        have HPUT := Lib.hid hput
        clear hput hZ hcN hcB hYS
        go_region
        go_wp2_with fail
        go_ret
        rw [H1D.out, Nat.sub_self]
        exact ⟨rfl, c', a3, c3, HS.out, HPUT.out.1.below (Below.refl _ _).drew, HPUT.out.2.trans (NStep.of_below (Below.refl _ _).drew)⟩

    · have hsr : RowN Y (some ⟨b, d * 4, none⟩) 4 (n - d) ((es.drop d).flatMap En.cells) := by
        have h2 := (RowN.of_own HLY.out.row).dropN hdn
        rw [Nat.zero_add] at h2
        exact h2
      have HSR := Lib.hid hsr
      have hce := fun Z (hZ : Below Y.heap.size Y Z) => cloneE_any (some ⟨b, d * 4, none⟩) (n - d) (cap - d) (es.drop d) Z ((HSR.out).below hZ) (fun e => by cases e) (by omega)
      have HCE := Lib.hid hce
      clear hce hsr
      go_region_law (first
        | (go_simp; go_at_call 34; refine (HCE.out _ (Below.refl _ _).drew).mono ?_; rintro e w3 ⟨a3, c3, rfl, ho3, hb3⟩
           have hb3' : Below Y.heap.size Y w3 := below_then (Below.refl _ _).drew hb3
           obtain ⟨⟨m0, m1, m2, m3, m4⟩, g0, g1, g2, g3, g4⟩ := five_cells (HN4.out _ hb3')))
      all_goals
        go_wp2_with fail
        obtain ⟨Z, hZ⟩ : ∃ Z, Z = w3.setCell ⟨N, 4, none⟩ (.slice a3 (n - d) c3) := ⟨_, rfl⟩
        have hzN := lt_of_block HLY.out.cell
        have hYS := HYS.out
        have hcN : Z.heap[N]? = some (.cells #[.int .i64 ix, .int .i64 tm, .slice c.v.a c.v.len c.v.cap, .slice c.l.a c.l.len c.l.cap, .slice a3 (n - d) c3] 67 (0, 0)) := hZ ▸ set_block (i := 4) (HN4.out _ hb3') _
        have hcB : Z.heap[w2.heap.size]? = some (.cells #[.slice c'.v.a c'.v.len c'.v.cap, .slice c'.l.a c'.l.len c'.l.cap] 27 (0, 0)) := hZ ▸ set_far ((hb3'.block _ (by omega)).trans HYB.out) (by omega)
        have hput := log_put (i := i) (t := tt) (c' := c') H.out (below_then HBY.out hb3') (own_keep HV.out fun g _ hl => hb3'.block g hl) (own_keep HLL.out fun g _ hl => hb3'.block g hl) hz12 ho3 HBY.out.size (fun e he => List.mem_of_mem_drop he) (by rw [List.length_drop, H.out.len])
        rw [← hZ] at hput ⊢
        clear m0 m1 m2 m3 m4 g0 g1 g2 g3 g4 n0 n1 n2 n3 n4 f0 f1 f2 f3 f4
        obtain ⟨⟨n0, n1, n2, n3, n4⟩, f0, f1, f2, f3, f4⟩ := five_cells hcN
        obtain ⟨x0, x1, _, _⟩ := two_cells hcB
        have e1 : N ≠ w2.heap.size := by omega
        have e2 : w2.heap.size ≠ N := by omega
        have HPUT := Lib.hid hput
        clear hput hZ hcN hcB hYS
        go_region
        go_wp2_with fail
        go_ret
        exact ⟨rfl, c', a3, c3, HS.out, HPUT.out.1.below (Below.refl _ _).drew, HPUT.out.2.trans (NStep.of_below (Below.refl _ _).drew)⟩

end Go.Proofs.Ytpaommkjafdghaa
