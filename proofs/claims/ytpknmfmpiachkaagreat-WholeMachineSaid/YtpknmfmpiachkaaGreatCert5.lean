/- cert's clone: a submission as new memory. -/
import Derived.Test.YtpknmfmpiachkaaGreatCert4
namespace Go.Proofs.YtpknmfmpiachkaaGreat
open Go.RowKit
def RetNew (w : World) (T : TypeId) (size n : Nat) (vs : List Value) (e : Ending) (w' : World) : Prop :=
 ∃ ao cap, e = .returned (.slice ao n cap) ∧ w'.ownsRow w.heap.size T size (.slice ao n cap) n vs ∧ Below w.heap.size w w'
set_option maxHeartbeats 1600000 in
theorem cloneF_any (a : Option Addr) (n cap : Nat) (l : List Nat) (hl : l.length = n) (hn : n ≤ 1000000) (w : World) (hr : RowN w a 1 n (cellsF l)) :
 Calls Tryz.prog 58 #[.slice a n cap] w (RetNew w 63 1 n (cellsF l)) := by
 have heq := fun (w : World) (a : Option Addr) (n c : Nat) => Lib.run_eql_slice_nil (P := Tryz.prog) w 23 63 a n c 0 0 Tryz.underlying23
 cases a with
 | none =>
   have h0 : n = 0 := by
    rcases Nat.eq_zero_or_pos n with h | h
    · exact h
    · obtain ⟨b, off, h1, _⟩ := hr.2 h
      cases h1
   subst h0
   obtain rfl : l = [] := List.eq_nil_of_length_eq_zero hl
   clear hr hl
   go_enter Tryz.func58, Tryz.ntmps58
   go_wp2
   go_ret
   exact ⟨_, _, rfl, World.ownsRow_nil _ _ _ _, Below.refl _ _⟩
 | some ad =>
   have HR := Lib.hid hr
   have HL := Lib.hid hl
   clear hr hl
   go_enter Tryz.func58, Tryz.ntmps58
   go_wp2_with (at_builtin; refine wpList_appendF rfl (.tmp 5) (.tmp 6) rfl w.heap.size (some ⟨w.heap.size, 0, none⟩) 0 0 [] rfl (by have := World.ownsRow_made w (base := w.heap.size) (e := 63) (size := 1) #[] 0 (Nat.le_refl _) (by decide) rfl; simpa using this) (some ad) n cap (cellsF l) rfl (HR.out.alloc _) (fun h => by cases h) (cellsF_one l) (by omega) (by simp) n (by omega) ?_; intro ao' cap' w1 hown hg hat; rw [List.nil_append] at hown)
   go_ret
   exact ⟨_, _, rfl, hown, ((Below.refl _ _).alloc (Nat.le_refl _) _).grown hg (by simp) (fun k hk => by simp [Value.ownBlock] at hk; omega)⟩
set_option maxHeartbeats 1600000 in
theorem cloneS_any (a : Option Addr) (n cap : Nat) (l : List Spn) (hl : l.length = n) (hn : n ≤ 1000000) (w : World) (hr : RowN w a 4 n (l.flatMap Spn.cells)) :
 Calls Tryz.prog 59 #[.slice a n cap] w (RetNew w 101 4 n (l.flatMap Spn.cells)) := by
 have heq := fun (w : World) (a : Option Addr) (n c : Nat) => Lib.run_eql_slice_nil (P := Tryz.prog) w 24 101 a n c 0 0 Tryz.underlying24
 cases a with
 | none =>
   have h0 : n = 0 := by
    rcases Nat.eq_zero_or_pos n with h | h
    · exact h
    · obtain ⟨b, off, h1, _⟩ := hr.2 h
      cases h1
   subst h0
   obtain rfl : l = [] := List.eq_nil_of_length_eq_zero hl
   clear hr hl
   go_enter Tryz.func59, Tryz.ntmps59
   go_wp2
   go_ret
   exact ⟨_, _, rfl, World.ownsRow_nil _ _ _ _, Below.refl _ _⟩
 | some ad =>
   have HR := Lib.hid hr
   have HL := Lib.hid hl
   clear hr hl
   go_enter Tryz.func59, Tryz.ntmps59
   go_wp2_with (at_builtin; refine wpList_appendS rfl (.tmp 5) (.tmp 6) rfl w.heap.size (some ⟨w.heap.size, 0, none⟩) 0 0 [] rfl (by have := World.ownsRow_made w (base := w.heap.size) (e := 101) (size := 4) #[] 0 (Nat.le_refl _) (by decide) rfl; simpa using this) (some ad) n cap (l.flatMap Spn.cells) rfl (HR.out.alloc _) (fun h => by cases h) (cells_one l) (by omega) (by simp) n (by omega) ?_; intro ao' cap' w1 hown hg hat; rw [List.nil_append] at hown)
   go_ret
   exact ⟨_, _, rfl, hown, ((Below.refl _ _).alloc (Nat.le_refl _) _).grown hg (by simp) (fun k hk => by simp [Value.ownBlock] at hk; omega)⟩
def RetClone (w : World) (m : SubM) (e : Ending) (w' : World) : Prop :=
 ∃ m' : SubM, m'.s = m.s ∧ e = .returned m'.args ∧ m'.ok w' ∧ Below w.heap.size w w' ∧ (∀ b off, m'.ra = some ⟨b, off, none⟩ → w.heap.size ≤ b) ∧ (∀ b off, m'.sa = some ⟨b, off, none⟩ → w.heap.size ≤ b) ∧ (∀ b off, m'.wa = some ⟨b, off, none⟩ → w.heap.size ≤ b)
theorem own_from {w : World} {base : Nat} {T : TypeId} {size n cap : Nat} {ao : Option Addr} {vs : List Value} (h : w.ownsRow base T size (.slice ao n cap) n vs) (b off : Nat) (ha : ao = some ⟨b, off, none⟩) : base ≤ b := by
 subst ha
 exact (h.lt b rfl).1
theorem set6 {w : World} {B : Nat} {T : TypeId} {fr : Nat × Nat} {a0 a1 a2 a3 a4 a5 : Value} (h : w.heap[B]? = some (.cells #[a0, a1, a2, a3, a4, a5] T fr)) (v0 v1 v2 v3 v4 v5 : Value) : ((((((w.setCell ⟨B, 0, none⟩ v0).setCell ⟨B, 1, none⟩ v1).setCell ⟨B, 2, none⟩ v2).setCell ⟨B, 3, none⟩ v3).setCell ⟨B, 4, none⟩ v4).setCell ⟨B, 5, none⟩ v5).heap[B]? = some (.cells #[v0, v1, v2, v3, v4, v5] T fr) :=
 set_block (i := 5) (set_block (i := 4) (set_block (i := 3) (set_block (i := 2) (set_block (i := 1) (set_block (i := 0) h v0) v1) v2) v3) v4) v5
theorem six_far {w : World} {B b : Nat} (hn : b ≠ B) (v0 v1 v2 v3 v4 v5 : Value) : ((((((w.setCell ⟨B, 0, none⟩ v0).setCell ⟨B, 1, none⟩ v1).setCell ⟨B, 2, none⟩ v2).setCell ⟨B, 3, none⟩ v3).setCell ⟨B, 4, none⟩ v4).setCell ⟨B, 5, none⟩ v5).heap[b]? = w.heap[b]? :=
 set_far (set_far (set_far (set_far (set_far (set_far rfl hn) hn) hn) hn) hn) hn
set_option maxRecDepth 100000 in
set_option maxHeartbeats 12800000 in
theorem cloneC_any (m : SubM) (hr : m.s.Right) (w : World) (hm : m.ok w) : Calls Tryz.prog 25 #[m.args] w (RetClone w m) := by
 have hlr := hr.lr
 have hls := hr.ls
 have hlw := hr.lw
 have h1 := fun W (hb : Below w.heap.size w W) => cloneF_any m.ra m.s.reads.length m.rc m.s.reads rfl (by omega) W (hm.reads.below hb)
 have h2 := fun W (hb : Below w.heap.size w W) => cloneS_any m.sa m.s.spans.length m.sc m.s.spans rfl (by omega) W (hm.spans.below hb)
 have h3 := fun W (hb : Below w.heap.size w W) => cloneF_any m.wa m.s.writes.length m.wc m.s.writes rfl (by omega) W (hm.writes.below hb)
 have H1 := Lib.hid h1
 have H2 := Lib.hid h2
 have H3 := Lib.hid h3
 have HM := Lib.hid hm
 clear h1 h2 h3 hm hr
 unfold SubM.args
 obtain ⟨Y, hY⟩ : ∃ Y, Y = (w.alloc (.cells #[.int .i64 m.s.session, .int .i64 m.s.seq, .int .i64 m.s.snap, .slice m.ra m.s.reads.length m.rc, .slice m.sa m.s.spans.length m.sc, .slice m.wa m.s.writes.length m.wc] 26)).alloc (.cells #[.int .i64 0, .int .i64 0, .int .i64 0, .slice none 0 0, .slice none 0 0, .slice none 0 0] 26) := ⟨_, rfl⟩
 have hbY : Below w.heap.size w Y := hY ▸ below_alloc (below_alloc (Below.refl _ _) _) _
 have hYB : Y.heap[w.heap.size]? = some (.cells #[.int .i64 m.s.session, .int .i64 m.s.seq, .int .i64 m.s.snap, .slice m.ra m.s.reads.length m.rc, .slice m.sa m.s.spans.length m.sc, .slice m.wa m.s.writes.length m.wc] 26 (0, 0)) := hY ▸ alloc_keep (heap_alloc_new w _) _
 have hYL : Y.heap[w.heap.size + 1]? = some (.cells #[.int .i64 0, .int .i64 0, .int .i64 0, .slice none 0 0, .slice none 0 0, .slice none 0 0] 26 (0, 0)) := hY ▸ alloc_new1 _ _ _
 have HBY := Lib.hid hbY
 have HYB := Lib.hid hYB
 have HYL := Lib.hid hYL
 clear hbY hYB hYL
 go_enter Tryz.func25, Tryz.ntmps25
 go_upto_region 1 with fail
 rw [← hY]
 clear hY
 go_cut [] (fun wx => ∃ ao1 cp1 ao2 cp2 ao3 cp3, Hid (wx.heap[w.heap.size]? = some (.cells #[.int .i64 m.s.session, .int .i64 m.s.seq, .int .i64 m.s.snap, .slice ao1 m.s.reads.length cp1, .slice ao2 m.s.spans.length cp2, .slice ao3 m.s.writes.length cp3] 26 (0, 0))) ∧ Hid (wx.heap[w.heap.size + 1]? = some (.cells #[.int .i64 0, .int .i64 0, .int .i64 0, .slice none 0 0, .slice none 0 0, .slice none 0 0] 26 (0, 0))) ∧ Hid (SubM.ok wx ⟨m.s, ao1, cp1, ao2, cp2, ao3, cp3⟩) ∧ Hid (Below w.heap.size w wx) ∧ Hid (∀ b off, ao1 = some ⟨b, off, none⟩ → w.heap.size + 2 ≤ b) ∧ Hid (∀ b off, ao2 = some ⟨b, off, none⟩ → w.heap.size + 2 ≤ b) ∧ Hid (∀ b off, ao3 = some ⟨b, off, none⟩ → w.heap.size + 2 ≤ b))
 case first =>
  have hy2 : w.heap.size + 2 ≤ Y.drew.heap.size := lt_of_block HYL.out
  obtain ⟨_, _, _, c3, c4, c5⟩ := six_cells HYB.out
  refine wp_region_noPanic ?_
  refine wp_region_held_drew (S := (fun _ => True)) (by kernel_rfl) ?_ (fun hHeld0 => ?_)
  · trivial
  refine wu 0 rfl ?_
  refine wu 3 rfl ?_
  refine wu 6 rfl ?_
  refine wpAnyH_ready (rs := [1, 4, 7]) (by kernel_rfl) (by simp) ?_
  refine AllReadyH.cons (o := _) rfl (fun K hK => ?_) (AllReadyH.cons (o := _) rfl (fun K hK => ?_) (AllReadyH.cons (o := _) rfl (fun K hK => ?_) AllReadyH.nil))
  · skip
    go_simp
    refine hK.out _ _ ?_ (fun hHeld1 => ?_)
    · trivial
    clear hK K hHeld0
    try simp only [Act.put, List.setIfInBounds_toArray, List.set]
    refine wpAnyH_ready (rs := [2, 4, 7]) (by kernel_rfl) (by simp) ?_
    refine AllReadyH.cons (o := _) rfl (fun K hK => ?_) (AllReadyH.cons (o := _) rfl (fun K hK => ?_) (AllReadyH.cons (o := _) rfl (fun K hK => ?_) AllReadyH.nil))
    · skip
      go_simp
      refine (H1.out _ HBY.out.drew).mono ?_
      rintro e w1 ⟨ao1, cp1, rfl, hown1, hb1⟩
      have HB1 : Hid (Below w.heap.size w w1) := below_then HBY.out.drew hb1
      have HC1 : Hid (w1.heap[w.heap.size]? = _) := (hb1.block _ (lt_of_block HYB.out)).trans HYB.out
      have HL1 : Hid (w1.heap[w.heap.size + 1]? = _) := (hb1.block _ (lt_of_block HYL.out)).trans HYL.out
      have HO1 := Lib.hid hown1
      have hs1 := hb1.size
      obtain ⟨_, _, _, _, d4, d5⟩ := six_cells HC1.out
      clear hown1 hb1
      go_wp2_with fail
      refine hK.out _ _ ?_ (fun hHeld2 => ?_)
      · trivial
      clear hK K hHeld1
      try simp only [Act.put, List.setIfInBounds_toArray, List.set]
      refine wz 4 7 rfl (fun K hK => ?_) rfl fun K hK => ?_
      · skip
        go_simp
        refine hK.out _ _ ?_ (fun hHeld3 => ?_)
        · trivial
        clear hK K hHeld2
        try simp only [Act.put, List.setIfInBounds_toArray, List.set]
        refine wz 5 7 rfl (fun K hK => ?_) rfl fun K hK => ?_
        · skip
          go_simp
          refine (H2.out _ HB1.out).mono ?_
          rintro e w2 ⟨ao2, cp2, rfl, hown2, hb2⟩
          have HB2 : Hid (Below w.heap.size w w2) := below_then HB1.out hb2
          have HC2 : Hid (w2.heap[w.heap.size]? = _) := (hb2.block _ (lt_of_block HC1.out)).trans HC1.out
          have HL2 : Hid (w2.heap[w.heap.size + 1]? = _) := (hb2.block _ (lt_of_block HL1.out)).trans HL1.out
          have HO2 := Lib.hid hown2
          have hs2 := hb2.size
          obtain ⟨_, _, _, _, _, g5⟩ := six_cells HC2.out
          have HO1b := Lib.hid (own_below HO1.out hb2 (Nat.le_refl _))
          clear hown2 hb2
          go_wp2_with fail
          refine hK.out _ _ ?_ (fun hHeld4 => ?_)
          · trivial
          clear hK K hHeld3
          try simp only [Act.put, List.setIfInBounds_toArray, List.set]
          refine wy 7 rfl fun K hK => ?_
          go_simp
          refine hK.out _ _ ?_ (fun hHeld5 => ?_)
          · trivial
          clear hK K hHeld4
          try simp only [Act.put, List.setIfInBounds_toArray, List.set]
          refine wu 9 rfl ?_
          refine wy 8 rfl fun K hK => ?_
          go_simp
          refine (H3.out _ HB2.out).mono ?_
          rintro e w3 ⟨ao3, cp3, rfl, hown3, hb3⟩
          have HB3 : Hid (Below w.heap.size w w3) := below_then HB2.out hb3
          have HC3 : Hid (w3.heap[w.heap.size]? = _) := (hb3.block _ (lt_of_block HC2.out)).trans HC2.out
          have HL3 : Hid (w3.heap[w.heap.size + 1]? = _) := (hb3.block _ (lt_of_block HL2.out)).trans HL2.out
          have HO3 := Lib.hid hown3
          have hs3 := hb3.size
          have HO1c := Lib.hid (own_below HO1b.out hb3 (Nat.le_refl _))
          have HO2c := Lib.hid (own_below HO2.out hb3 (Nat.le_refl _))
          obtain ⟨f0, f1, f2, f3, f4, f5⟩ := six_frz HC3.out
          obtain ⟨k0, k1, k2, k3, k4, k5⟩ := six_cells HC3.out
          clear hown3 hb3
          go_wp2_with fail
          refine hK.out _ _ ?_ (fun hHeld6 => ?_)
          · trivial
          clear hK K hHeld5
          try simp only [Act.put, List.setIfInBounds_toArray, List.set]
          refine wy 10 rfl fun K hK => ?_
          go_simp
          refine hK.out _ _ ?_ (fun hHeld7 => ?_)
          · trivial
          clear hK K hHeld6
          try simp only [Act.put, List.setIfInBounds_toArray, List.set]
          refine wu 11 rfl ?_
          refine wy 12 rfl fun K hK => ?_
          go_simp
          refine hK.out _ _ ?_ (fun hHeld8 => ?_)
          · trivial
          clear hK K hHeld7
          try simp only [Act.put, List.setIfInBounds_toArray, List.set]
          refine wu 13 rfl ?_
          refine wy 14 rfl fun K hK => ?_
          go_simp
          refine hK.out _ _ ?_ (fun hHeld9 => ?_)
          · trivial
          clear hK K hHeld8
          try simp only [Act.put, List.setIfInBounds_toArray, List.set]
          refine wpAnyH_done (by kernel_rfl) ?_ _
          refine NoPanic.normal ?_
          have ho1 : ((((w3.setCell ⟨w.heap.size, 3, none⟩ (.slice ao1 m.s.reads.length cp1))).setCell ⟨w.heap.size, 4, none⟩ (.slice ao2 m.s.spans.length cp2)).setCell ⟨w.heap.size, 5, none⟩ (.slice ao3 m.s.writes.length cp3)).ownsRow Y.drew.heap.size 63 1 (.slice ao1 m.s.reads.length cp1) m.s.reads.length (cellsF m.s.reads) := own_keep HO1c.out fun g hg _ => set_far (set_far (set_far rfl (by have := (HO1c.out.lt g hg).1; omega)) (by have := (HO1c.out.lt g hg).1; omega)) (by have := (HO1c.out.lt g hg).1; omega)
          have ho2 : ((((w3.setCell ⟨w.heap.size, 3, none⟩ (.slice ao1 m.s.reads.length cp1))).setCell ⟨w.heap.size, 4, none⟩ (.slice ao2 m.s.spans.length cp2)).setCell ⟨w.heap.size, 5, none⟩ (.slice ao3 m.s.writes.length cp3)).ownsRow w1.heap.size 101 4 (.slice ao2 m.s.spans.length cp2) m.s.spans.length (m.s.spans.flatMap Spn.cells) := own_keep HO2c.out fun g hg _ => set_far (set_far (set_far rfl (by have := (HO2c.out.lt g hg).1; omega)) (by have := (HO2c.out.lt g hg).1; omega)) (by have := (HO2c.out.lt g hg).1; omega)
          have ho3 : ((((w3.setCell ⟨w.heap.size, 3, none⟩ (.slice ao1 m.s.reads.length cp1))).setCell ⟨w.heap.size, 4, none⟩ (.slice ao2 m.s.spans.length cp2)).setCell ⟨w.heap.size, 5, none⟩ (.slice ao3 m.s.writes.length cp3)).ownsRow w2.heap.size 63 1 (.slice ao3 m.s.writes.length cp3) m.s.writes.length (cellsF m.s.writes) := own_keep HO3.out fun g hg _ => set_far (set_far (set_far rfl (by have := (HO3.out.lt g hg).1; omega)) (by have := (HO3.out.lt g hg).1; omega)) (by have := (HO3.out.lt g hg).1; omega)
          have HO1d := Lib.hid ho1
          have HO2d := Lib.hid ho2
          have HO3d := Lib.hid ho3
          clear ho1 ho2 ho3
          go_wp2_with fail
          go_meet
          exact ⟨ao1, cp1, ao2, cp2, ao3, cp3, set_block (i := 5) (set_block (i := 4) (set_block (i := 3) HC3.out _) _) _, set_far (set_far (set_far HL3.out (by omega)) (by omega)) (by omega), ⟨HM.out.words, RowN.of_own HO1d.out, RowN.of_own HO2d.out, RowN.of_own HO3d.out, HM.out.lr, HM.out.ls, HM.out.lw⟩, below_set (below_set (below_set HB3.out _ (Nat.le_refl _)) _ (Nat.le_refl _)) _ (Nat.le_refl _), fun b off h => Nat.le_trans hy2 (own_from HO1d.out b off h), fun b off h => Nat.le_trans (Nat.le_trans hy2 hs1) (own_from HO2d.out b off h), fun b off h => Nat.le_trans (Nat.le_trans hy2 (Nat.le_trans hs1 hs2)) (own_from HO3d.out b off h)⟩
        · skip
          go_simp
          refine hK.out _ _ ?_ (fun hHeld10 => ?_)
          · trivial
          clear hK K hHeld3
          try simp only [Act.put, List.setIfInBounds_toArray, List.set]
          refine wu 9 rfl ?_
          refine wy 5 rfl fun K hK => ?_
          go_simp
          refine (H2.out _ HB1.out).mono ?_
          rintro e w2 ⟨ao2, cp2, rfl, hown2, hb2⟩
          have HB2 : Hid (Below w.heap.size w w2) := below_then HB1.out hb2
          have HC2 : Hid (w2.heap[w.heap.size]? = _) := (hb2.block _ (lt_of_block HC1.out)).trans HC1.out
          have HL2 : Hid (w2.heap[w.heap.size + 1]? = _) := (hb2.block _ (lt_of_block HL1.out)).trans HL1.out
          have HO2 := Lib.hid hown2
          have hs2 := hb2.size
          obtain ⟨_, _, _, _, _, g5⟩ := six_cells HC2.out
          have HO1b := Lib.hid (own_below HO1.out hb2 (Nat.le_refl _))
          clear hown2 hb2
          go_wp2_with fail
          refine hK.out _ _ ?_ (fun hHeld11 => ?_)
          · trivial
          clear hK K hHeld10
          try simp only [Act.put, List.setIfInBounds_toArray, List.set]
          refine wy 8 rfl fun K hK => ?_
          go_simp
          refine (H3.out _ HB2.out).mono ?_
          rintro e w3 ⟨ao3, cp3, rfl, hown3, hb3⟩
          have HB3 : Hid (Below w.heap.size w w3) := below_then HB2.out hb3
          have HC3 : Hid (w3.heap[w.heap.size]? = _) := (hb3.block _ (lt_of_block HC2.out)).trans HC2.out
          have HL3 : Hid (w3.heap[w.heap.size + 1]? = _) := (hb3.block _ (lt_of_block HL2.out)).trans HL2.out
          have HO3 := Lib.hid hown3
          have hs3 := hb3.size
          have HO1c := Lib.hid (own_below HO1b.out hb3 (Nat.le_refl _))
          have HO2c := Lib.hid (own_below HO2.out hb3 (Nat.le_refl _))
          obtain ⟨f0, f1, f2, f3, f4, f5⟩ := six_frz HC3.out
          obtain ⟨k0, k1, k2, k3, k4, k5⟩ := six_cells HC3.out
          clear hown3 hb3
          go_wp2_with fail
          refine hK.out _ _ ?_ (fun hHeld12 => ?_)
          · trivial
          clear hK K hHeld11
          try simp only [Act.put, List.setIfInBounds_toArray, List.set]
          refine wy 10 rfl fun K hK => ?_
          go_simp
          refine hK.out _ _ ?_ (fun hHeld13 => ?_)
          · trivial
          clear hK K hHeld12
          try simp only [Act.put, List.setIfInBounds_toArray, List.set]
          refine wu 11 rfl ?_
          refine wy 12 rfl fun K hK => ?_
          go_simp
          refine hK.out _ _ ?_ (fun hHeld14 => ?_)
          · trivial
          clear hK K hHeld13
          try simp only [Act.put, List.setIfInBounds_toArray, List.set]
          refine wu 13 rfl ?_
          refine wy 14 rfl fun K hK => ?_
          go_simp
          refine hK.out _ _ ?_ (fun hHeld15 => ?_)
          · trivial
          clear hK K hHeld14
          try simp only [Act.put, List.setIfInBounds_toArray, List.set]
          refine wpAnyH_done (by kernel_rfl) ?_ _
          refine NoPanic.normal ?_
          have ho1 : ((((w3.setCell ⟨w.heap.size, 3, none⟩ (.slice ao1 m.s.reads.length cp1))).setCell ⟨w.heap.size, 4, none⟩ (.slice ao2 m.s.spans.length cp2)).setCell ⟨w.heap.size, 5, none⟩ (.slice ao3 m.s.writes.length cp3)).ownsRow Y.drew.heap.size 63 1 (.slice ao1 m.s.reads.length cp1) m.s.reads.length (cellsF m.s.reads) := own_keep HO1c.out fun g hg _ => set_far (set_far (set_far rfl (by have := (HO1c.out.lt g hg).1; omega)) (by have := (HO1c.out.lt g hg).1; omega)) (by have := (HO1c.out.lt g hg).1; omega)
          have ho2 : ((((w3.setCell ⟨w.heap.size, 3, none⟩ (.slice ao1 m.s.reads.length cp1))).setCell ⟨w.heap.size, 4, none⟩ (.slice ao2 m.s.spans.length cp2)).setCell ⟨w.heap.size, 5, none⟩ (.slice ao3 m.s.writes.length cp3)).ownsRow w1.heap.size 101 4 (.slice ao2 m.s.spans.length cp2) m.s.spans.length (m.s.spans.flatMap Spn.cells) := own_keep HO2c.out fun g hg _ => set_far (set_far (set_far rfl (by have := (HO2c.out.lt g hg).1; omega)) (by have := (HO2c.out.lt g hg).1; omega)) (by have := (HO2c.out.lt g hg).1; omega)
          have ho3 : ((((w3.setCell ⟨w.heap.size, 3, none⟩ (.slice ao1 m.s.reads.length cp1))).setCell ⟨w.heap.size, 4, none⟩ (.slice ao2 m.s.spans.length cp2)).setCell ⟨w.heap.size, 5, none⟩ (.slice ao3 m.s.writes.length cp3)).ownsRow w2.heap.size 63 1 (.slice ao3 m.s.writes.length cp3) m.s.writes.length (cellsF m.s.writes) := own_keep HO3.out fun g hg _ => set_far (set_far (set_far rfl (by have := (HO3.out.lt g hg).1; omega)) (by have := (HO3.out.lt g hg).1; omega)) (by have := (HO3.out.lt g hg).1; omega)
          have HO1d := Lib.hid ho1
          have HO2d := Lib.hid ho2
          have HO3d := Lib.hid ho3
          clear ho1 ho2 ho3
          go_wp2_with fail
          go_meet
          exact ⟨ao1, cp1, ao2, cp2, ao3, cp3, set_block (i := 5) (set_block (i := 4) (set_block (i := 3) HC3.out _) _) _, set_far (set_far (set_far HL3.out (by omega)) (by omega)) (by omega), ⟨HM.out.words, RowN.of_own HO1d.out, RowN.of_own HO2d.out, RowN.of_own HO3d.out, HM.out.lr, HM.out.ls, HM.out.lw⟩, below_set (below_set (below_set HB3.out _ (Nat.le_refl _)) _ (Nat.le_refl _)) _ (Nat.le_refl _), fun b off h => Nat.le_trans hy2 (own_from HO1d.out b off h), fun b off h => Nat.le_trans (Nat.le_trans hy2 hs1) (own_from HO2d.out b off h), fun b off h => Nat.le_trans (Nat.le_trans hy2 (Nat.le_trans hs1 hs2)) (own_from HO3d.out b off h)⟩
      · skip
        go_simp
        refine hK.out _ _ ?_ (fun hHeld16 => ?_)
        · trivial
        clear hK K hHeld2
        try simp only [Act.put, List.setIfInBounds_toArray, List.set]
        refine wy 4 rfl fun K hK => ?_
        go_simp
        refine hK.out _ _ ?_ (fun hHeld17 => ?_)
        · trivial
        clear hK K hHeld16
        try simp only [Act.put, List.setIfInBounds_toArray, List.set]
        refine wu 9 rfl ?_
        refine wy 5 rfl fun K hK => ?_
        go_simp
        refine (H2.out _ HB1.out).mono ?_
        rintro e w2 ⟨ao2, cp2, rfl, hown2, hb2⟩
        have HB2 : Hid (Below w.heap.size w w2) := below_then HB1.out hb2
        have HC2 : Hid (w2.heap[w.heap.size]? = _) := (hb2.block _ (lt_of_block HC1.out)).trans HC1.out
        have HL2 : Hid (w2.heap[w.heap.size + 1]? = _) := (hb2.block _ (lt_of_block HL1.out)).trans HL1.out
        have HO2 := Lib.hid hown2
        have hs2 := hb2.size
        obtain ⟨_, _, _, _, _, g5⟩ := six_cells HC2.out
        have HO1b := Lib.hid (own_below HO1.out hb2 (Nat.le_refl _))
        clear hown2 hb2
        go_wp2_with fail
        refine hK.out _ _ ?_ (fun hHeld18 => ?_)
        · trivial
        clear hK K hHeld17
        try simp only [Act.put, List.setIfInBounds_toArray, List.set]
        refine wy 8 rfl fun K hK => ?_
        go_simp
        refine (H3.out _ HB2.out).mono ?_
        rintro e w3 ⟨ao3, cp3, rfl, hown3, hb3⟩
        have HB3 : Hid (Below w.heap.size w w3) := below_then HB2.out hb3
        have HC3 : Hid (w3.heap[w.heap.size]? = _) := (hb3.block _ (lt_of_block HC2.out)).trans HC2.out
        have HL3 : Hid (w3.heap[w.heap.size + 1]? = _) := (hb3.block _ (lt_of_block HL2.out)).trans HL2.out
        have HO3 := Lib.hid hown3
        have hs3 := hb3.size
        have HO1c := Lib.hid (own_below HO1b.out hb3 (Nat.le_refl _))
        have HO2c := Lib.hid (own_below HO2.out hb3 (Nat.le_refl _))
        obtain ⟨f0, f1, f2, f3, f4, f5⟩ := six_frz HC3.out
        obtain ⟨k0, k1, k2, k3, k4, k5⟩ := six_cells HC3.out
        clear hown3 hb3
        go_wp2_with fail
        refine hK.out _ _ ?_ (fun hHeld19 => ?_)
        · trivial
        clear hK K hHeld18
        try simp only [Act.put, List.setIfInBounds_toArray, List.set]
        refine wy 10 rfl fun K hK => ?_
        go_simp
        refine hK.out _ _ ?_ (fun hHeld20 => ?_)
        · trivial
        clear hK K hHeld19
        try simp only [Act.put, List.setIfInBounds_toArray, List.set]
        refine wu 11 rfl ?_
        refine wy 12 rfl fun K hK => ?_
        go_simp
        refine hK.out _ _ ?_ (fun hHeld21 => ?_)
        · trivial
        clear hK K hHeld20
        try simp only [Act.put, List.setIfInBounds_toArray, List.set]
        refine wu 13 rfl ?_
        refine wy 14 rfl fun K hK => ?_
        go_simp
        refine hK.out _ _ ?_ (fun hHeld22 => ?_)
        · trivial
        clear hK K hHeld21
        try simp only [Act.put, List.setIfInBounds_toArray, List.set]
        refine wpAnyH_done (by kernel_rfl) ?_ _
        refine NoPanic.normal ?_
        have ho1 : ((((w3.setCell ⟨w.heap.size, 3, none⟩ (.slice ao1 m.s.reads.length cp1))).setCell ⟨w.heap.size, 4, none⟩ (.slice ao2 m.s.spans.length cp2)).setCell ⟨w.heap.size, 5, none⟩ (.slice ao3 m.s.writes.length cp3)).ownsRow Y.drew.heap.size 63 1 (.slice ao1 m.s.reads.length cp1) m.s.reads.length (cellsF m.s.reads) := own_keep HO1c.out fun g hg _ => set_far (set_far (set_far rfl (by have := (HO1c.out.lt g hg).1; omega)) (by have := (HO1c.out.lt g hg).1; omega)) (by have := (HO1c.out.lt g hg).1; omega)
        have ho2 : ((((w3.setCell ⟨w.heap.size, 3, none⟩ (.slice ao1 m.s.reads.length cp1))).setCell ⟨w.heap.size, 4, none⟩ (.slice ao2 m.s.spans.length cp2)).setCell ⟨w.heap.size, 5, none⟩ (.slice ao3 m.s.writes.length cp3)).ownsRow w1.heap.size 101 4 (.slice ao2 m.s.spans.length cp2) m.s.spans.length (m.s.spans.flatMap Spn.cells) := own_keep HO2c.out fun g hg _ => set_far (set_far (set_far rfl (by have := (HO2c.out.lt g hg).1; omega)) (by have := (HO2c.out.lt g hg).1; omega)) (by have := (HO2c.out.lt g hg).1; omega)
        have ho3 : ((((w3.setCell ⟨w.heap.size, 3, none⟩ (.slice ao1 m.s.reads.length cp1))).setCell ⟨w.heap.size, 4, none⟩ (.slice ao2 m.s.spans.length cp2)).setCell ⟨w.heap.size, 5, none⟩ (.slice ao3 m.s.writes.length cp3)).ownsRow w2.heap.size 63 1 (.slice ao3 m.s.writes.length cp3) m.s.writes.length (cellsF m.s.writes) := own_keep HO3.out fun g hg _ => set_far (set_far (set_far rfl (by have := (HO3.out.lt g hg).1; omega)) (by have := (HO3.out.lt g hg).1; omega)) (by have := (HO3.out.lt g hg).1; omega)
        have HO1d := Lib.hid ho1
        have HO2d := Lib.hid ho2
        have HO3d := Lib.hid ho3
        clear ho1 ho2 ho3
        go_wp2_with fail
        go_meet
        exact ⟨ao1, cp1, ao2, cp2, ao3, cp3, set_block (i := 5) (set_block (i := 4) (set_block (i := 3) HC3.out _) _) _, set_far (set_far (set_far HL3.out (by omega)) (by omega)) (by omega), ⟨HM.out.words, RowN.of_own HO1d.out, RowN.of_own HO2d.out, RowN.of_own HO3d.out, HM.out.lr, HM.out.ls, HM.out.lw⟩, below_set (below_set (below_set HB3.out _ (Nat.le_refl _)) _ (Nat.le_refl _)) _ (Nat.le_refl _), fun b off h => Nat.le_trans hy2 (own_from HO1d.out b off h), fun b off h => Nat.le_trans (Nat.le_trans hy2 hs1) (own_from HO2d.out b off h), fun b off h => Nat.le_trans (Nat.le_trans hy2 (Nat.le_trans hs1 hs2)) (own_from HO3d.out b off h)⟩
    · skip
      go_simp
      refine hK.out _ _ ?_ (fun hHeld23 => ?_)
      · trivial
      clear hK K hHeld1
      try simp only [Act.put, List.setIfInBounds_toArray, List.set]
      refine wz 2 7 rfl (fun K hK => ?_) rfl fun K hK => ?_
      · skip
        go_simp
        refine (H1.out _ HBY.out.drew).mono ?_
        rintro e w1 ⟨ao1, cp1, rfl, hown1, hb1⟩
        have HB1 : Hid (Below w.heap.size w w1) := below_then HBY.out.drew hb1
        have HC1 : Hid (w1.heap[w.heap.size]? = _) := (hb1.block _ (lt_of_block HYB.out)).trans HYB.out
        have HL1 : Hid (w1.heap[w.heap.size + 1]? = _) := (hb1.block _ (lt_of_block HYL.out)).trans HYL.out
        have HO1 := Lib.hid hown1
        have hs1 := hb1.size
        obtain ⟨_, _, _, _, d4, d5⟩ := six_cells HC1.out
        clear hown1 hb1
        go_wp2_with fail
        refine hK.out _ _ ?_ (fun hHeld24 => ?_)
        · trivial
        clear hK K hHeld23
        try simp only [Act.put, List.setIfInBounds_toArray, List.set]
        refine wz 5 7 rfl (fun K hK => ?_) rfl fun K hK => ?_
        · skip
          go_simp
          refine (H2.out _ HB1.out).mono ?_
          rintro e w2 ⟨ao2, cp2, rfl, hown2, hb2⟩
          have HB2 : Hid (Below w.heap.size w w2) := below_then HB1.out hb2
          have HC2 : Hid (w2.heap[w.heap.size]? = _) := (hb2.block _ (lt_of_block HC1.out)).trans HC1.out
          have HL2 : Hid (w2.heap[w.heap.size + 1]? = _) := (hb2.block _ (lt_of_block HL1.out)).trans HL1.out
          have HO2 := Lib.hid hown2
          have hs2 := hb2.size
          obtain ⟨_, _, _, _, _, g5⟩ := six_cells HC2.out
          have HO1b := Lib.hid (own_below HO1.out hb2 (Nat.le_refl _))
          clear hown2 hb2
          go_wp2_with fail
          refine hK.out _ _ ?_ (fun hHeld25 => ?_)
          · trivial
          clear hK K hHeld24
          try simp only [Act.put, List.setIfInBounds_toArray, List.set]
          refine wy 7 rfl fun K hK => ?_
          go_simp
          refine hK.out _ _ ?_ (fun hHeld26 => ?_)
          · trivial
          clear hK K hHeld25
          try simp only [Act.put, List.setIfInBounds_toArray, List.set]
          refine wu 9 rfl ?_
          refine wy 8 rfl fun K hK => ?_
          go_simp
          refine (H3.out _ HB2.out).mono ?_
          rintro e w3 ⟨ao3, cp3, rfl, hown3, hb3⟩
          have HB3 : Hid (Below w.heap.size w w3) := below_then HB2.out hb3
          have HC3 : Hid (w3.heap[w.heap.size]? = _) := (hb3.block _ (lt_of_block HC2.out)).trans HC2.out
          have HL3 : Hid (w3.heap[w.heap.size + 1]? = _) := (hb3.block _ (lt_of_block HL2.out)).trans HL2.out
          have HO3 := Lib.hid hown3
          have hs3 := hb3.size
          have HO1c := Lib.hid (own_below HO1b.out hb3 (Nat.le_refl _))
          have HO2c := Lib.hid (own_below HO2.out hb3 (Nat.le_refl _))
          obtain ⟨f0, f1, f2, f3, f4, f5⟩ := six_frz HC3.out
          obtain ⟨k0, k1, k2, k3, k4, k5⟩ := six_cells HC3.out
          clear hown3 hb3
          go_wp2_with fail
          refine hK.out _ _ ?_ (fun hHeld27 => ?_)
          · trivial
          clear hK K hHeld26
          try simp only [Act.put, List.setIfInBounds_toArray, List.set]
          refine wy 10 rfl fun K hK => ?_
          go_simp
          refine hK.out _ _ ?_ (fun hHeld28 => ?_)
          · trivial
          clear hK K hHeld27
          try simp only [Act.put, List.setIfInBounds_toArray, List.set]
          refine wu 11 rfl ?_
          refine wy 12 rfl fun K hK => ?_
          go_simp
          refine hK.out _ _ ?_ (fun hHeld29 => ?_)
          · trivial
          clear hK K hHeld28
          try simp only [Act.put, List.setIfInBounds_toArray, List.set]
          refine wu 13 rfl ?_
          refine wy 14 rfl fun K hK => ?_
          go_simp
          refine hK.out _ _ ?_ (fun hHeld30 => ?_)
          · trivial
          clear hK K hHeld29
          try simp only [Act.put, List.setIfInBounds_toArray, List.set]
          refine wpAnyH_done (by kernel_rfl) ?_ _
          refine NoPanic.normal ?_
          have ho1 : ((((w3.setCell ⟨w.heap.size, 3, none⟩ (.slice ao1 m.s.reads.length cp1))).setCell ⟨w.heap.size, 4, none⟩ (.slice ao2 m.s.spans.length cp2)).setCell ⟨w.heap.size, 5, none⟩ (.slice ao3 m.s.writes.length cp3)).ownsRow Y.drew.heap.size 63 1 (.slice ao1 m.s.reads.length cp1) m.s.reads.length (cellsF m.s.reads) := own_keep HO1c.out fun g hg _ => set_far (set_far (set_far rfl (by have := (HO1c.out.lt g hg).1; omega)) (by have := (HO1c.out.lt g hg).1; omega)) (by have := (HO1c.out.lt g hg).1; omega)
          have ho2 : ((((w3.setCell ⟨w.heap.size, 3, none⟩ (.slice ao1 m.s.reads.length cp1))).setCell ⟨w.heap.size, 4, none⟩ (.slice ao2 m.s.spans.length cp2)).setCell ⟨w.heap.size, 5, none⟩ (.slice ao3 m.s.writes.length cp3)).ownsRow w1.heap.size 101 4 (.slice ao2 m.s.spans.length cp2) m.s.spans.length (m.s.spans.flatMap Spn.cells) := own_keep HO2c.out fun g hg _ => set_far (set_far (set_far rfl (by have := (HO2c.out.lt g hg).1; omega)) (by have := (HO2c.out.lt g hg).1; omega)) (by have := (HO2c.out.lt g hg).1; omega)
          have ho3 : ((((w3.setCell ⟨w.heap.size, 3, none⟩ (.slice ao1 m.s.reads.length cp1))).setCell ⟨w.heap.size, 4, none⟩ (.slice ao2 m.s.spans.length cp2)).setCell ⟨w.heap.size, 5, none⟩ (.slice ao3 m.s.writes.length cp3)).ownsRow w2.heap.size 63 1 (.slice ao3 m.s.writes.length cp3) m.s.writes.length (cellsF m.s.writes) := own_keep HO3.out fun g hg _ => set_far (set_far (set_far rfl (by have := (HO3.out.lt g hg).1; omega)) (by have := (HO3.out.lt g hg).1; omega)) (by have := (HO3.out.lt g hg).1; omega)
          have HO1d := Lib.hid ho1
          have HO2d := Lib.hid ho2
          have HO3d := Lib.hid ho3
          clear ho1 ho2 ho3
          go_wp2_with fail
          go_meet
          exact ⟨ao1, cp1, ao2, cp2, ao3, cp3, set_block (i := 5) (set_block (i := 4) (set_block (i := 3) HC3.out _) _) _, set_far (set_far (set_far HL3.out (by omega)) (by omega)) (by omega), ⟨HM.out.words, RowN.of_own HO1d.out, RowN.of_own HO2d.out, RowN.of_own HO3d.out, HM.out.lr, HM.out.ls, HM.out.lw⟩, below_set (below_set (below_set HB3.out _ (Nat.le_refl _)) _ (Nat.le_refl _)) _ (Nat.le_refl _), fun b off h => Nat.le_trans hy2 (own_from HO1d.out b off h), fun b off h => Nat.le_trans (Nat.le_trans hy2 hs1) (own_from HO2d.out b off h), fun b off h => Nat.le_trans (Nat.le_trans hy2 (Nat.le_trans hs1 hs2)) (own_from HO3d.out b off h)⟩
        · skip
          go_simp
          refine hK.out _ _ ?_ (fun hHeld31 => ?_)
          · trivial
          clear hK K hHeld24
          try simp only [Act.put, List.setIfInBounds_toArray, List.set]
          refine wu 9 rfl ?_
          refine wy 5 rfl fun K hK => ?_
          go_simp
          refine (H2.out _ HB1.out).mono ?_
          rintro e w2 ⟨ao2, cp2, rfl, hown2, hb2⟩
          have HB2 : Hid (Below w.heap.size w w2) := below_then HB1.out hb2
          have HC2 : Hid (w2.heap[w.heap.size]? = _) := (hb2.block _ (lt_of_block HC1.out)).trans HC1.out
          have HL2 : Hid (w2.heap[w.heap.size + 1]? = _) := (hb2.block _ (lt_of_block HL1.out)).trans HL1.out
          have HO2 := Lib.hid hown2
          have hs2 := hb2.size
          obtain ⟨_, _, _, _, _, g5⟩ := six_cells HC2.out
          have HO1b := Lib.hid (own_below HO1.out hb2 (Nat.le_refl _))
          clear hown2 hb2
          go_wp2_with fail
          refine hK.out _ _ ?_ (fun hHeld32 => ?_)
          · trivial
          clear hK K hHeld31
          try simp only [Act.put, List.setIfInBounds_toArray, List.set]
          refine wy 8 rfl fun K hK => ?_
          go_simp
          refine (H3.out _ HB2.out).mono ?_
          rintro e w3 ⟨ao3, cp3, rfl, hown3, hb3⟩
          have HB3 : Hid (Below w.heap.size w w3) := below_then HB2.out hb3
          have HC3 : Hid (w3.heap[w.heap.size]? = _) := (hb3.block _ (lt_of_block HC2.out)).trans HC2.out
          have HL3 : Hid (w3.heap[w.heap.size + 1]? = _) := (hb3.block _ (lt_of_block HL2.out)).trans HL2.out
          have HO3 := Lib.hid hown3
          have hs3 := hb3.size
          have HO1c := Lib.hid (own_below HO1b.out hb3 (Nat.le_refl _))
          have HO2c := Lib.hid (own_below HO2.out hb3 (Nat.le_refl _))
          obtain ⟨f0, f1, f2, f3, f4, f5⟩ := six_frz HC3.out
          obtain ⟨k0, k1, k2, k3, k4, k5⟩ := six_cells HC3.out
          clear hown3 hb3
          go_wp2_with fail
          refine hK.out _ _ ?_ (fun hHeld33 => ?_)
          · trivial
          clear hK K hHeld32
          try simp only [Act.put, List.setIfInBounds_toArray, List.set]
          refine wy 10 rfl fun K hK => ?_
          go_simp
          refine hK.out _ _ ?_ (fun hHeld34 => ?_)
          · trivial
          clear hK K hHeld33
          try simp only [Act.put, List.setIfInBounds_toArray, List.set]
          refine wu 11 rfl ?_
          refine wy 12 rfl fun K hK => ?_
          go_simp
          refine hK.out _ _ ?_ (fun hHeld35 => ?_)
          · trivial
          clear hK K hHeld34
          try simp only [Act.put, List.setIfInBounds_toArray, List.set]
          refine wu 13 rfl ?_
          refine wy 14 rfl fun K hK => ?_
          go_simp
          refine hK.out _ _ ?_ (fun hHeld36 => ?_)
          · trivial
          clear hK K hHeld35
          try simp only [Act.put, List.setIfInBounds_toArray, List.set]
          refine wpAnyH_done (by kernel_rfl) ?_ _
          refine NoPanic.normal ?_
          have ho1 : ((((w3.setCell ⟨w.heap.size, 3, none⟩ (.slice ao1 m.s.reads.length cp1))).setCell ⟨w.heap.size, 4, none⟩ (.slice ao2 m.s.spans.length cp2)).setCell ⟨w.heap.size, 5, none⟩ (.slice ao3 m.s.writes.length cp3)).ownsRow Y.drew.heap.size 63 1 (.slice ao1 m.s.reads.length cp1) m.s.reads.length (cellsF m.s.reads) := own_keep HO1c.out fun g hg _ => set_far (set_far (set_far rfl (by have := (HO1c.out.lt g hg).1; omega)) (by have := (HO1c.out.lt g hg).1; omega)) (by have := (HO1c.out.lt g hg).1; omega)
          have ho2 : ((((w3.setCell ⟨w.heap.size, 3, none⟩ (.slice ao1 m.s.reads.length cp1))).setCell ⟨w.heap.size, 4, none⟩ (.slice ao2 m.s.spans.length cp2)).setCell ⟨w.heap.size, 5, none⟩ (.slice ao3 m.s.writes.length cp3)).ownsRow w1.heap.size 101 4 (.slice ao2 m.s.spans.length cp2) m.s.spans.length (m.s.spans.flatMap Spn.cells) := own_keep HO2c.out fun g hg _ => set_far (set_far (set_far rfl (by have := (HO2c.out.lt g hg).1; omega)) (by have := (HO2c.out.lt g hg).1; omega)) (by have := (HO2c.out.lt g hg).1; omega)
          have ho3 : ((((w3.setCell ⟨w.heap.size, 3, none⟩ (.slice ao1 m.s.reads.length cp1))).setCell ⟨w.heap.size, 4, none⟩ (.slice ao2 m.s.spans.length cp2)).setCell ⟨w.heap.size, 5, none⟩ (.slice ao3 m.s.writes.length cp3)).ownsRow w2.heap.size 63 1 (.slice ao3 m.s.writes.length cp3) m.s.writes.length (cellsF m.s.writes) := own_keep HO3.out fun g hg _ => set_far (set_far (set_far rfl (by have := (HO3.out.lt g hg).1; omega)) (by have := (HO3.out.lt g hg).1; omega)) (by have := (HO3.out.lt g hg).1; omega)
          have HO1d := Lib.hid ho1
          have HO2d := Lib.hid ho2
          have HO3d := Lib.hid ho3
          clear ho1 ho2 ho3
          go_wp2_with fail
          go_meet
          exact ⟨ao1, cp1, ao2, cp2, ao3, cp3, set_block (i := 5) (set_block (i := 4) (set_block (i := 3) HC3.out _) _) _, set_far (set_far (set_far HL3.out (by omega)) (by omega)) (by omega), ⟨HM.out.words, RowN.of_own HO1d.out, RowN.of_own HO2d.out, RowN.of_own HO3d.out, HM.out.lr, HM.out.ls, HM.out.lw⟩, below_set (below_set (below_set HB3.out _ (Nat.le_refl _)) _ (Nat.le_refl _)) _ (Nat.le_refl _), fun b off h => Nat.le_trans hy2 (own_from HO1d.out b off h), fun b off h => Nat.le_trans (Nat.le_trans hy2 hs1) (own_from HO2d.out b off h), fun b off h => Nat.le_trans (Nat.le_trans hy2 (Nat.le_trans hs1 hs2)) (own_from HO3d.out b off h)⟩
      · skip
        go_simp
        refine hK.out _ _ ?_ (fun hHeld37 => ?_)
        · trivial
        clear hK K hHeld23
        try simp only [Act.put, List.setIfInBounds_toArray, List.set]
        refine wy 2 rfl fun K hK => ?_
        go_simp
        refine (H1.out _ HBY.out.drew).mono ?_
        rintro e w1 ⟨ao1, cp1, rfl, hown1, hb1⟩
        have HB1 : Hid (Below w.heap.size w w1) := below_then HBY.out.drew hb1
        have HC1 : Hid (w1.heap[w.heap.size]? = _) := (hb1.block _ (lt_of_block HYB.out)).trans HYB.out
        have HL1 : Hid (w1.heap[w.heap.size + 1]? = _) := (hb1.block _ (lt_of_block HYL.out)).trans HYL.out
        have HO1 := Lib.hid hown1
        have hs1 := hb1.size
        obtain ⟨_, _, _, _, d4, d5⟩ := six_cells HC1.out
        clear hown1 hb1
        go_wp2_with fail
        refine hK.out _ _ ?_ (fun hHeld38 => ?_)
        · trivial
        clear hK K hHeld37
        try simp only [Act.put, List.setIfInBounds_toArray, List.set]
        refine wu 9 rfl ?_
        refine wy 5 rfl fun K hK => ?_
        go_simp
        refine (H2.out _ HB1.out).mono ?_
        rintro e w2 ⟨ao2, cp2, rfl, hown2, hb2⟩
        have HB2 : Hid (Below w.heap.size w w2) := below_then HB1.out hb2
        have HC2 : Hid (w2.heap[w.heap.size]? = _) := (hb2.block _ (lt_of_block HC1.out)).trans HC1.out
        have HL2 : Hid (w2.heap[w.heap.size + 1]? = _) := (hb2.block _ (lt_of_block HL1.out)).trans HL1.out
        have HO2 := Lib.hid hown2
        have hs2 := hb2.size
        obtain ⟨_, _, _, _, _, g5⟩ := six_cells HC2.out
        have HO1b := Lib.hid (own_below HO1.out hb2 (Nat.le_refl _))
        clear hown2 hb2
        go_wp2_with fail
        refine hK.out _ _ ?_ (fun hHeld39 => ?_)
        · trivial
        clear hK K hHeld38
        try simp only [Act.put, List.setIfInBounds_toArray, List.set]
        refine wy 8 rfl fun K hK => ?_
        go_simp
        refine (H3.out _ HB2.out).mono ?_
        rintro e w3 ⟨ao3, cp3, rfl, hown3, hb3⟩
        have HB3 : Hid (Below w.heap.size w w3) := below_then HB2.out hb3
        have HC3 : Hid (w3.heap[w.heap.size]? = _) := (hb3.block _ (lt_of_block HC2.out)).trans HC2.out
        have HL3 : Hid (w3.heap[w.heap.size + 1]? = _) := (hb3.block _ (lt_of_block HL2.out)).trans HL2.out
        have HO3 := Lib.hid hown3
        have hs3 := hb3.size
        have HO1c := Lib.hid (own_below HO1b.out hb3 (Nat.le_refl _))
        have HO2c := Lib.hid (own_below HO2.out hb3 (Nat.le_refl _))
        obtain ⟨f0, f1, f2, f3, f4, f5⟩ := six_frz HC3.out
        obtain ⟨k0, k1, k2, k3, k4, k5⟩ := six_cells HC3.out
        clear hown3 hb3
        go_wp2_with fail
        refine hK.out _ _ ?_ (fun hHeld40 => ?_)
        · trivial
        clear hK K hHeld39
        try simp only [Act.put, List.setIfInBounds_toArray, List.set]
        refine wy 10 rfl fun K hK => ?_
        go_simp
        refine hK.out _ _ ?_ (fun hHeld41 => ?_)
        · trivial
        clear hK K hHeld40
        try simp only [Act.put, List.setIfInBounds_toArray, List.set]
        refine wu 11 rfl ?_
        refine wy 12 rfl fun K hK => ?_
        go_simp
        refine hK.out _ _ ?_ (fun hHeld42 => ?_)
        · trivial
        clear hK K hHeld41
        try simp only [Act.put, List.setIfInBounds_toArray, List.set]
        refine wu 13 rfl ?_
        refine wy 14 rfl fun K hK => ?_
        go_simp
        refine hK.out _ _ ?_ (fun hHeld43 => ?_)
        · trivial
        clear hK K hHeld42
        try simp only [Act.put, List.setIfInBounds_toArray, List.set]
        refine wpAnyH_done (by kernel_rfl) ?_ _
        refine NoPanic.normal ?_
        have ho1 : ((((w3.setCell ⟨w.heap.size, 3, none⟩ (.slice ao1 m.s.reads.length cp1))).setCell ⟨w.heap.size, 4, none⟩ (.slice ao2 m.s.spans.length cp2)).setCell ⟨w.heap.size, 5, none⟩ (.slice ao3 m.s.writes.length cp3)).ownsRow Y.drew.heap.size 63 1 (.slice ao1 m.s.reads.length cp1) m.s.reads.length (cellsF m.s.reads) := own_keep HO1c.out fun g hg _ => set_far (set_far (set_far rfl (by have := (HO1c.out.lt g hg).1; omega)) (by have := (HO1c.out.lt g hg).1; omega)) (by have := (HO1c.out.lt g hg).1; omega)
        have ho2 : ((((w3.setCell ⟨w.heap.size, 3, none⟩ (.slice ao1 m.s.reads.length cp1))).setCell ⟨w.heap.size, 4, none⟩ (.slice ao2 m.s.spans.length cp2)).setCell ⟨w.heap.size, 5, none⟩ (.slice ao3 m.s.writes.length cp3)).ownsRow w1.heap.size 101 4 (.slice ao2 m.s.spans.length cp2) m.s.spans.length (m.s.spans.flatMap Spn.cells) := own_keep HO2c.out fun g hg _ => set_far (set_far (set_far rfl (by have := (HO2c.out.lt g hg).1; omega)) (by have := (HO2c.out.lt g hg).1; omega)) (by have := (HO2c.out.lt g hg).1; omega)
        have ho3 : ((((w3.setCell ⟨w.heap.size, 3, none⟩ (.slice ao1 m.s.reads.length cp1))).setCell ⟨w.heap.size, 4, none⟩ (.slice ao2 m.s.spans.length cp2)).setCell ⟨w.heap.size, 5, none⟩ (.slice ao3 m.s.writes.length cp3)).ownsRow w2.heap.size 63 1 (.slice ao3 m.s.writes.length cp3) m.s.writes.length (cellsF m.s.writes) := own_keep HO3.out fun g hg _ => set_far (set_far (set_far rfl (by have := (HO3.out.lt g hg).1; omega)) (by have := (HO3.out.lt g hg).1; omega)) (by have := (HO3.out.lt g hg).1; omega)
        have HO1d := Lib.hid ho1
        have HO2d := Lib.hid ho2
        have HO3d := Lib.hid ho3
        clear ho1 ho2 ho3
        go_wp2_with fail
        go_meet
        exact ⟨ao1, cp1, ao2, cp2, ao3, cp3, set_block (i := 5) (set_block (i := 4) (set_block (i := 3) HC3.out _) _) _, set_far (set_far (set_far HL3.out (by omega)) (by omega)) (by omega), ⟨HM.out.words, RowN.of_own HO1d.out, RowN.of_own HO2d.out, RowN.of_own HO3d.out, HM.out.lr, HM.out.ls, HM.out.lw⟩, below_set (below_set (below_set HB3.out _ (Nat.le_refl _)) _ (Nat.le_refl _)) _ (Nat.le_refl _), fun b off h => Nat.le_trans hy2 (own_from HO1d.out b off h), fun b off h => Nat.le_trans (Nat.le_trans hy2 hs1) (own_from HO2d.out b off h), fun b off h => Nat.le_trans (Nat.le_trans hy2 (Nat.le_trans hs1 hs2)) (own_from HO3d.out b off h)⟩
    · skip
      go_simp
      refine hK.out _ _ ?_ (fun hHeld44 => ?_)
      · trivial
      clear hK K hHeld1
      try simp only [Act.put, List.setIfInBounds_toArray, List.set]
      refine wz 2 4 rfl (fun K hK => ?_) rfl fun K hK => ?_
      · skip
        go_simp
        refine (H1.out _ HBY.out.drew).mono ?_
        rintro e w1 ⟨ao1, cp1, rfl, hown1, hb1⟩
        have HB1 : Hid (Below w.heap.size w w1) := below_then HBY.out.drew hb1
        have HC1 : Hid (w1.heap[w.heap.size]? = _) := (hb1.block _ (lt_of_block HYB.out)).trans HYB.out
        have HL1 : Hid (w1.heap[w.heap.size + 1]? = _) := (hb1.block _ (lt_of_block HYL.out)).trans HYL.out
        have HO1 := Lib.hid hown1
        have hs1 := hb1.size
        obtain ⟨_, _, _, _, d4, d5⟩ := six_cells HC1.out
        clear hown1 hb1
        go_wp2_with fail
        refine hK.out _ _ ?_ (fun hHeld45 => ?_)
        · trivial
        clear hK K hHeld44
        try simp only [Act.put, List.setIfInBounds_toArray, List.set]
        refine wy 4 rfl fun K hK => ?_
        go_simp
        refine hK.out _ _ ?_ (fun hHeld46 => ?_)
        · trivial
        clear hK K hHeld45
        try simp only [Act.put, List.setIfInBounds_toArray, List.set]
        refine wu 9 rfl ?_
        refine wy 5 rfl fun K hK => ?_
        go_simp
        refine (H2.out _ HB1.out).mono ?_
        rintro e w2 ⟨ao2, cp2, rfl, hown2, hb2⟩
        have HB2 : Hid (Below w.heap.size w w2) := below_then HB1.out hb2
        have HC2 : Hid (w2.heap[w.heap.size]? = _) := (hb2.block _ (lt_of_block HC1.out)).trans HC1.out
        have HL2 : Hid (w2.heap[w.heap.size + 1]? = _) := (hb2.block _ (lt_of_block HL1.out)).trans HL1.out
        have HO2 := Lib.hid hown2
        have hs2 := hb2.size
        obtain ⟨_, _, _, _, _, g5⟩ := six_cells HC2.out
        have HO1b := Lib.hid (own_below HO1.out hb2 (Nat.le_refl _))
        clear hown2 hb2
        go_wp2_with fail
        refine hK.out _ _ ?_ (fun hHeld47 => ?_)
        · trivial
        clear hK K hHeld46
        try simp only [Act.put, List.setIfInBounds_toArray, List.set]
        refine wy 8 rfl fun K hK => ?_
        go_simp
        refine (H3.out _ HB2.out).mono ?_
        rintro e w3 ⟨ao3, cp3, rfl, hown3, hb3⟩
        have HB3 : Hid (Below w.heap.size w w3) := below_then HB2.out hb3
        have HC3 : Hid (w3.heap[w.heap.size]? = _) := (hb3.block _ (lt_of_block HC2.out)).trans HC2.out
        have HL3 : Hid (w3.heap[w.heap.size + 1]? = _) := (hb3.block _ (lt_of_block HL2.out)).trans HL2.out
        have HO3 := Lib.hid hown3
        have hs3 := hb3.size
        have HO1c := Lib.hid (own_below HO1b.out hb3 (Nat.le_refl _))
        have HO2c := Lib.hid (own_below HO2.out hb3 (Nat.le_refl _))
        obtain ⟨f0, f1, f2, f3, f4, f5⟩ := six_frz HC3.out
        obtain ⟨k0, k1, k2, k3, k4, k5⟩ := six_cells HC3.out
        clear hown3 hb3
        go_wp2_with fail
        refine hK.out _ _ ?_ (fun hHeld48 => ?_)
        · trivial
        clear hK K hHeld47
        try simp only [Act.put, List.setIfInBounds_toArray, List.set]
        refine wy 10 rfl fun K hK => ?_
        go_simp
        refine hK.out _ _ ?_ (fun hHeld49 => ?_)
        · trivial
        clear hK K hHeld48
        try simp only [Act.put, List.setIfInBounds_toArray, List.set]
        refine wu 11 rfl ?_
        refine wy 12 rfl fun K hK => ?_
        go_simp
        refine hK.out _ _ ?_ (fun hHeld50 => ?_)
        · trivial
        clear hK K hHeld49
        try simp only [Act.put, List.setIfInBounds_toArray, List.set]
        refine wu 13 rfl ?_
        refine wy 14 rfl fun K hK => ?_
        go_simp
        refine hK.out _ _ ?_ (fun hHeld51 => ?_)
        · trivial
        clear hK K hHeld50
        try simp only [Act.put, List.setIfInBounds_toArray, List.set]
        refine wpAnyH_done (by kernel_rfl) ?_ _
        refine NoPanic.normal ?_
        have ho1 : ((((w3.setCell ⟨w.heap.size, 3, none⟩ (.slice ao1 m.s.reads.length cp1))).setCell ⟨w.heap.size, 4, none⟩ (.slice ao2 m.s.spans.length cp2)).setCell ⟨w.heap.size, 5, none⟩ (.slice ao3 m.s.writes.length cp3)).ownsRow Y.drew.heap.size 63 1 (.slice ao1 m.s.reads.length cp1) m.s.reads.length (cellsF m.s.reads) := own_keep HO1c.out fun g hg _ => set_far (set_far (set_far rfl (by have := (HO1c.out.lt g hg).1; omega)) (by have := (HO1c.out.lt g hg).1; omega)) (by have := (HO1c.out.lt g hg).1; omega)
        have ho2 : ((((w3.setCell ⟨w.heap.size, 3, none⟩ (.slice ao1 m.s.reads.length cp1))).setCell ⟨w.heap.size, 4, none⟩ (.slice ao2 m.s.spans.length cp2)).setCell ⟨w.heap.size, 5, none⟩ (.slice ao3 m.s.writes.length cp3)).ownsRow w1.heap.size 101 4 (.slice ao2 m.s.spans.length cp2) m.s.spans.length (m.s.spans.flatMap Spn.cells) := own_keep HO2c.out fun g hg _ => set_far (set_far (set_far rfl (by have := (HO2c.out.lt g hg).1; omega)) (by have := (HO2c.out.lt g hg).1; omega)) (by have := (HO2c.out.lt g hg).1; omega)
        have ho3 : ((((w3.setCell ⟨w.heap.size, 3, none⟩ (.slice ao1 m.s.reads.length cp1))).setCell ⟨w.heap.size, 4, none⟩ (.slice ao2 m.s.spans.length cp2)).setCell ⟨w.heap.size, 5, none⟩ (.slice ao3 m.s.writes.length cp3)).ownsRow w2.heap.size 63 1 (.slice ao3 m.s.writes.length cp3) m.s.writes.length (cellsF m.s.writes) := own_keep HO3.out fun g hg _ => set_far (set_far (set_far rfl (by have := (HO3.out.lt g hg).1; omega)) (by have := (HO3.out.lt g hg).1; omega)) (by have := (HO3.out.lt g hg).1; omega)
        have HO1d := Lib.hid ho1
        have HO2d := Lib.hid ho2
        have HO3d := Lib.hid ho3
        clear ho1 ho2 ho3
        go_wp2_with fail
        go_meet
        exact ⟨ao1, cp1, ao2, cp2, ao3, cp3, set_block (i := 5) (set_block (i := 4) (set_block (i := 3) HC3.out _) _) _, set_far (set_far (set_far HL3.out (by omega)) (by omega)) (by omega), ⟨HM.out.words, RowN.of_own HO1d.out, RowN.of_own HO2d.out, RowN.of_own HO3d.out, HM.out.lr, HM.out.ls, HM.out.lw⟩, below_set (below_set (below_set HB3.out _ (Nat.le_refl _)) _ (Nat.le_refl _)) _ (Nat.le_refl _), fun b off h => Nat.le_trans hy2 (own_from HO1d.out b off h), fun b off h => Nat.le_trans (Nat.le_trans hy2 hs1) (own_from HO2d.out b off h), fun b off h => Nat.le_trans (Nat.le_trans hy2 (Nat.le_trans hs1 hs2)) (own_from HO3d.out b off h)⟩
      · skip
        go_simp
        refine hK.out _ _ ?_ (fun hHeld52 => ?_)
        · trivial
        clear hK K hHeld44
        try simp only [Act.put, List.setIfInBounds_toArray, List.set]
        refine wy 2 rfl fun K hK => ?_
        go_simp
        refine (H1.out _ HBY.out.drew).mono ?_
        rintro e w1 ⟨ao1, cp1, rfl, hown1, hb1⟩
        have HB1 : Hid (Below w.heap.size w w1) := below_then HBY.out.drew hb1
        have HC1 : Hid (w1.heap[w.heap.size]? = _) := (hb1.block _ (lt_of_block HYB.out)).trans HYB.out
        have HL1 : Hid (w1.heap[w.heap.size + 1]? = _) := (hb1.block _ (lt_of_block HYL.out)).trans HYL.out
        have HO1 := Lib.hid hown1
        have hs1 := hb1.size
        obtain ⟨_, _, _, _, d4, d5⟩ := six_cells HC1.out
        clear hown1 hb1
        go_wp2_with fail
        refine hK.out _ _ ?_ (fun hHeld53 => ?_)
        · trivial
        clear hK K hHeld52
        try simp only [Act.put, List.setIfInBounds_toArray, List.set]
        refine wu 9 rfl ?_
        refine wy 5 rfl fun K hK => ?_
        go_simp
        refine (H2.out _ HB1.out).mono ?_
        rintro e w2 ⟨ao2, cp2, rfl, hown2, hb2⟩
        have HB2 : Hid (Below w.heap.size w w2) := below_then HB1.out hb2
        have HC2 : Hid (w2.heap[w.heap.size]? = _) := (hb2.block _ (lt_of_block HC1.out)).trans HC1.out
        have HL2 : Hid (w2.heap[w.heap.size + 1]? = _) := (hb2.block _ (lt_of_block HL1.out)).trans HL1.out
        have HO2 := Lib.hid hown2
        have hs2 := hb2.size
        obtain ⟨_, _, _, _, _, g5⟩ := six_cells HC2.out
        have HO1b := Lib.hid (own_below HO1.out hb2 (Nat.le_refl _))
        clear hown2 hb2
        go_wp2_with fail
        refine hK.out _ _ ?_ (fun hHeld54 => ?_)
        · trivial
        clear hK K hHeld53
        try simp only [Act.put, List.setIfInBounds_toArray, List.set]
        refine wy 8 rfl fun K hK => ?_
        go_simp
        refine (H3.out _ HB2.out).mono ?_
        rintro e w3 ⟨ao3, cp3, rfl, hown3, hb3⟩
        have HB3 : Hid (Below w.heap.size w w3) := below_then HB2.out hb3
        have HC3 : Hid (w3.heap[w.heap.size]? = _) := (hb3.block _ (lt_of_block HC2.out)).trans HC2.out
        have HL3 : Hid (w3.heap[w.heap.size + 1]? = _) := (hb3.block _ (lt_of_block HL2.out)).trans HL2.out
        have HO3 := Lib.hid hown3
        have hs3 := hb3.size
        have HO1c := Lib.hid (own_below HO1b.out hb3 (Nat.le_refl _))
        have HO2c := Lib.hid (own_below HO2.out hb3 (Nat.le_refl _))
        obtain ⟨f0, f1, f2, f3, f4, f5⟩ := six_frz HC3.out
        obtain ⟨k0, k1, k2, k3, k4, k5⟩ := six_cells HC3.out
        clear hown3 hb3
        go_wp2_with fail
        refine hK.out _ _ ?_ (fun hHeld55 => ?_)
        · trivial
        clear hK K hHeld54
        try simp only [Act.put, List.setIfInBounds_toArray, List.set]
        refine wy 10 rfl fun K hK => ?_
        go_simp
        refine hK.out _ _ ?_ (fun hHeld56 => ?_)
        · trivial
        clear hK K hHeld55
        try simp only [Act.put, List.setIfInBounds_toArray, List.set]
        refine wu 11 rfl ?_
        refine wy 12 rfl fun K hK => ?_
        go_simp
        refine hK.out _ _ ?_ (fun hHeld57 => ?_)
        · trivial
        clear hK K hHeld56
        try simp only [Act.put, List.setIfInBounds_toArray, List.set]
        refine wu 13 rfl ?_
        refine wy 14 rfl fun K hK => ?_
        go_simp
        refine hK.out _ _ ?_ (fun hHeld58 => ?_)
        · trivial
        clear hK K hHeld57
        try simp only [Act.put, List.setIfInBounds_toArray, List.set]
        refine wpAnyH_done (by kernel_rfl) ?_ _
        refine NoPanic.normal ?_
        have ho1 : ((((w3.setCell ⟨w.heap.size, 3, none⟩ (.slice ao1 m.s.reads.length cp1))).setCell ⟨w.heap.size, 4, none⟩ (.slice ao2 m.s.spans.length cp2)).setCell ⟨w.heap.size, 5, none⟩ (.slice ao3 m.s.writes.length cp3)).ownsRow Y.drew.heap.size 63 1 (.slice ao1 m.s.reads.length cp1) m.s.reads.length (cellsF m.s.reads) := own_keep HO1c.out fun g hg _ => set_far (set_far (set_far rfl (by have := (HO1c.out.lt g hg).1; omega)) (by have := (HO1c.out.lt g hg).1; omega)) (by have := (HO1c.out.lt g hg).1; omega)
        have ho2 : ((((w3.setCell ⟨w.heap.size, 3, none⟩ (.slice ao1 m.s.reads.length cp1))).setCell ⟨w.heap.size, 4, none⟩ (.slice ao2 m.s.spans.length cp2)).setCell ⟨w.heap.size, 5, none⟩ (.slice ao3 m.s.writes.length cp3)).ownsRow w1.heap.size 101 4 (.slice ao2 m.s.spans.length cp2) m.s.spans.length (m.s.spans.flatMap Spn.cells) := own_keep HO2c.out fun g hg _ => set_far (set_far (set_far rfl (by have := (HO2c.out.lt g hg).1; omega)) (by have := (HO2c.out.lt g hg).1; omega)) (by have := (HO2c.out.lt g hg).1; omega)
        have ho3 : ((((w3.setCell ⟨w.heap.size, 3, none⟩ (.slice ao1 m.s.reads.length cp1))).setCell ⟨w.heap.size, 4, none⟩ (.slice ao2 m.s.spans.length cp2)).setCell ⟨w.heap.size, 5, none⟩ (.slice ao3 m.s.writes.length cp3)).ownsRow w2.heap.size 63 1 (.slice ao3 m.s.writes.length cp3) m.s.writes.length (cellsF m.s.writes) := own_keep HO3.out fun g hg _ => set_far (set_far (set_far rfl (by have := (HO3.out.lt g hg).1; omega)) (by have := (HO3.out.lt g hg).1; omega)) (by have := (HO3.out.lt g hg).1; omega)
        have HO1d := Lib.hid ho1
        have HO2d := Lib.hid ho2
        have HO3d := Lib.hid ho3
        clear ho1 ho2 ho3
        go_wp2_with fail
        go_meet
        exact ⟨ao1, cp1, ao2, cp2, ao3, cp3, set_block (i := 5) (set_block (i := 4) (set_block (i := 3) HC3.out _) _) _, set_far (set_far (set_far HL3.out (by omega)) (by omega)) (by omega), ⟨HM.out.words, RowN.of_own HO1d.out, RowN.of_own HO2d.out, RowN.of_own HO3d.out, HM.out.lr, HM.out.ls, HM.out.lw⟩, below_set (below_set (below_set HB3.out _ (Nat.le_refl _)) _ (Nat.le_refl _)) _ (Nat.le_refl _), fun b off h => Nat.le_trans hy2 (own_from HO1d.out b off h), fun b off h => Nat.le_trans (Nat.le_trans hy2 hs1) (own_from HO2d.out b off h), fun b off h => Nat.le_trans (Nat.le_trans hy2 (Nat.le_trans hs1 hs2)) (own_from HO3d.out b off h)⟩
  · skip
    go_simp
    refine hK.out _ _ ?_ (fun hHeld59 => ?_)
    · trivial
    clear hK K hHeld0
    try simp only [Act.put, List.setIfInBounds_toArray, List.set]
    refine wz 1 7 rfl (fun K hK => ?_) rfl fun K hK => ?_
    · skip
      go_simp
      refine hK.out _ _ ?_ (fun hHeld60 => ?_)
      · trivial
      clear hK K hHeld59
      try simp only [Act.put, List.setIfInBounds_toArray, List.set]
      refine wz 2 7 rfl (fun K hK => ?_) rfl fun K hK => ?_
      · skip
        go_simp
        refine (H1.out _ HBY.out.drew).mono ?_
        rintro e w1 ⟨ao1, cp1, rfl, hown1, hb1⟩
        have HB1 : Hid (Below w.heap.size w w1) := below_then HBY.out.drew hb1
        have HC1 : Hid (w1.heap[w.heap.size]? = _) := (hb1.block _ (lt_of_block HYB.out)).trans HYB.out
        have HL1 : Hid (w1.heap[w.heap.size + 1]? = _) := (hb1.block _ (lt_of_block HYL.out)).trans HYL.out
        have HO1 := Lib.hid hown1
        have hs1 := hb1.size
        obtain ⟨_, _, _, _, d4, d5⟩ := six_cells HC1.out
        clear hown1 hb1
        go_wp2_with fail
        refine hK.out _ _ ?_ (fun hHeld61 => ?_)
        · trivial
        clear hK K hHeld60
        try simp only [Act.put, List.setIfInBounds_toArray, List.set]
        refine wz 5 7 rfl (fun K hK => ?_) rfl fun K hK => ?_
        · skip
          go_simp
          refine (H2.out _ HB1.out).mono ?_
          rintro e w2 ⟨ao2, cp2, rfl, hown2, hb2⟩
          have HB2 : Hid (Below w.heap.size w w2) := below_then HB1.out hb2
          have HC2 : Hid (w2.heap[w.heap.size]? = _) := (hb2.block _ (lt_of_block HC1.out)).trans HC1.out
          have HL2 : Hid (w2.heap[w.heap.size + 1]? = _) := (hb2.block _ (lt_of_block HL1.out)).trans HL1.out
          have HO2 := Lib.hid hown2
          have hs2 := hb2.size
          obtain ⟨_, _, _, _, _, g5⟩ := six_cells HC2.out
          have HO1b := Lib.hid (own_below HO1.out hb2 (Nat.le_refl _))
          clear hown2 hb2
          go_wp2_with fail
          refine hK.out _ _ ?_ (fun hHeld62 => ?_)
          · trivial
          clear hK K hHeld61
          try simp only [Act.put, List.setIfInBounds_toArray, List.set]
          refine wy 7 rfl fun K hK => ?_
          go_simp
          refine hK.out _ _ ?_ (fun hHeld63 => ?_)
          · trivial
          clear hK K hHeld62
          try simp only [Act.put, List.setIfInBounds_toArray, List.set]
          refine wu 9 rfl ?_
          refine wy 8 rfl fun K hK => ?_
          go_simp
          refine (H3.out _ HB2.out).mono ?_
          rintro e w3 ⟨ao3, cp3, rfl, hown3, hb3⟩
          have HB3 : Hid (Below w.heap.size w w3) := below_then HB2.out hb3
          have HC3 : Hid (w3.heap[w.heap.size]? = _) := (hb3.block _ (lt_of_block HC2.out)).trans HC2.out
          have HL3 : Hid (w3.heap[w.heap.size + 1]? = _) := (hb3.block _ (lt_of_block HL2.out)).trans HL2.out
          have HO3 := Lib.hid hown3
          have hs3 := hb3.size
          have HO1c := Lib.hid (own_below HO1b.out hb3 (Nat.le_refl _))
          have HO2c := Lib.hid (own_below HO2.out hb3 (Nat.le_refl _))
          obtain ⟨f0, f1, f2, f3, f4, f5⟩ := six_frz HC3.out
          obtain ⟨k0, k1, k2, k3, k4, k5⟩ := six_cells HC3.out
          clear hown3 hb3
          go_wp2_with fail
          refine hK.out _ _ ?_ (fun hHeld64 => ?_)
          · trivial
          clear hK K hHeld63
          try simp only [Act.put, List.setIfInBounds_toArray, List.set]
          refine wy 10 rfl fun K hK => ?_
          go_simp
          refine hK.out _ _ ?_ (fun hHeld65 => ?_)
          · trivial
          clear hK K hHeld64
          try simp only [Act.put, List.setIfInBounds_toArray, List.set]
          refine wu 11 rfl ?_
          refine wy 12 rfl fun K hK => ?_
          go_simp
          refine hK.out _ _ ?_ (fun hHeld66 => ?_)
          · trivial
          clear hK K hHeld65
          try simp only [Act.put, List.setIfInBounds_toArray, List.set]
          refine wu 13 rfl ?_
          refine wy 14 rfl fun K hK => ?_
          go_simp
          refine hK.out _ _ ?_ (fun hHeld67 => ?_)
          · trivial
          clear hK K hHeld66
          try simp only [Act.put, List.setIfInBounds_toArray, List.set]
          refine wpAnyH_done (by kernel_rfl) ?_ _
          refine NoPanic.normal ?_
          have ho1 : ((((w3.setCell ⟨w.heap.size, 3, none⟩ (.slice ao1 m.s.reads.length cp1))).setCell ⟨w.heap.size, 4, none⟩ (.slice ao2 m.s.spans.length cp2)).setCell ⟨w.heap.size, 5, none⟩ (.slice ao3 m.s.writes.length cp3)).ownsRow Y.drew.heap.size 63 1 (.slice ao1 m.s.reads.length cp1) m.s.reads.length (cellsF m.s.reads) := own_keep HO1c.out fun g hg _ => set_far (set_far (set_far rfl (by have := (HO1c.out.lt g hg).1; omega)) (by have := (HO1c.out.lt g hg).1; omega)) (by have := (HO1c.out.lt g hg).1; omega)
          have ho2 : ((((w3.setCell ⟨w.heap.size, 3, none⟩ (.slice ao1 m.s.reads.length cp1))).setCell ⟨w.heap.size, 4, none⟩ (.slice ao2 m.s.spans.length cp2)).setCell ⟨w.heap.size, 5, none⟩ (.slice ao3 m.s.writes.length cp3)).ownsRow w1.heap.size 101 4 (.slice ao2 m.s.spans.length cp2) m.s.spans.length (m.s.spans.flatMap Spn.cells) := own_keep HO2c.out fun g hg _ => set_far (set_far (set_far rfl (by have := (HO2c.out.lt g hg).1; omega)) (by have := (HO2c.out.lt g hg).1; omega)) (by have := (HO2c.out.lt g hg).1; omega)
          have ho3 : ((((w3.setCell ⟨w.heap.size, 3, none⟩ (.slice ao1 m.s.reads.length cp1))).setCell ⟨w.heap.size, 4, none⟩ (.slice ao2 m.s.spans.length cp2)).setCell ⟨w.heap.size, 5, none⟩ (.slice ao3 m.s.writes.length cp3)).ownsRow w2.heap.size 63 1 (.slice ao3 m.s.writes.length cp3) m.s.writes.length (cellsF m.s.writes) := own_keep HO3.out fun g hg _ => set_far (set_far (set_far rfl (by have := (HO3.out.lt g hg).1; omega)) (by have := (HO3.out.lt g hg).1; omega)) (by have := (HO3.out.lt g hg).1; omega)
          have HO1d := Lib.hid ho1
          have HO2d := Lib.hid ho2
          have HO3d := Lib.hid ho3
          clear ho1 ho2 ho3
          go_wp2_with fail
          go_meet
          exact ⟨ao1, cp1, ao2, cp2, ao3, cp3, set_block (i := 5) (set_block (i := 4) (set_block (i := 3) HC3.out _) _) _, set_far (set_far (set_far HL3.out (by omega)) (by omega)) (by omega), ⟨HM.out.words, RowN.of_own HO1d.out, RowN.of_own HO2d.out, RowN.of_own HO3d.out, HM.out.lr, HM.out.ls, HM.out.lw⟩, below_set (below_set (below_set HB3.out _ (Nat.le_refl _)) _ (Nat.le_refl _)) _ (Nat.le_refl _), fun b off h => Nat.le_trans hy2 (own_from HO1d.out b off h), fun b off h => Nat.le_trans (Nat.le_trans hy2 hs1) (own_from HO2d.out b off h), fun b off h => Nat.le_trans (Nat.le_trans hy2 (Nat.le_trans hs1 hs2)) (own_from HO3d.out b off h)⟩
        · skip
          go_simp
          refine hK.out _ _ ?_ (fun hHeld68 => ?_)
          · trivial
          clear hK K hHeld61
          try simp only [Act.put, List.setIfInBounds_toArray, List.set]
          refine wu 9 rfl ?_
          refine wy 5 rfl fun K hK => ?_
          go_simp
          refine (H2.out _ HB1.out).mono ?_
          rintro e w2 ⟨ao2, cp2, rfl, hown2, hb2⟩
          have HB2 : Hid (Below w.heap.size w w2) := below_then HB1.out hb2
          have HC2 : Hid (w2.heap[w.heap.size]? = _) := (hb2.block _ (lt_of_block HC1.out)).trans HC1.out
          have HL2 : Hid (w2.heap[w.heap.size + 1]? = _) := (hb2.block _ (lt_of_block HL1.out)).trans HL1.out
          have HO2 := Lib.hid hown2
          have hs2 := hb2.size
          obtain ⟨_, _, _, _, _, g5⟩ := six_cells HC2.out
          have HO1b := Lib.hid (own_below HO1.out hb2 (Nat.le_refl _))
          clear hown2 hb2
          go_wp2_with fail
          refine hK.out _ _ ?_ (fun hHeld69 => ?_)
          · trivial
          clear hK K hHeld68
          try simp only [Act.put, List.setIfInBounds_toArray, List.set]
          refine wy 8 rfl fun K hK => ?_
          go_simp
          refine (H3.out _ HB2.out).mono ?_
          rintro e w3 ⟨ao3, cp3, rfl, hown3, hb3⟩
          have HB3 : Hid (Below w.heap.size w w3) := below_then HB2.out hb3
          have HC3 : Hid (w3.heap[w.heap.size]? = _) := (hb3.block _ (lt_of_block HC2.out)).trans HC2.out
          have HL3 : Hid (w3.heap[w.heap.size + 1]? = _) := (hb3.block _ (lt_of_block HL2.out)).trans HL2.out
          have HO3 := Lib.hid hown3
          have hs3 := hb3.size
          have HO1c := Lib.hid (own_below HO1b.out hb3 (Nat.le_refl _))
          have HO2c := Lib.hid (own_below HO2.out hb3 (Nat.le_refl _))
          obtain ⟨f0, f1, f2, f3, f4, f5⟩ := six_frz HC3.out
          obtain ⟨k0, k1, k2, k3, k4, k5⟩ := six_cells HC3.out
          clear hown3 hb3
          go_wp2_with fail
          refine hK.out _ _ ?_ (fun hHeld70 => ?_)
          · trivial
          clear hK K hHeld69
          try simp only [Act.put, List.setIfInBounds_toArray, List.set]
          refine wy 10 rfl fun K hK => ?_
          go_simp
          refine hK.out _ _ ?_ (fun hHeld71 => ?_)
          · trivial
          clear hK K hHeld70
          try simp only [Act.put, List.setIfInBounds_toArray, List.set]
          refine wu 11 rfl ?_
          refine wy 12 rfl fun K hK => ?_
          go_simp
          refine hK.out _ _ ?_ (fun hHeld72 => ?_)
          · trivial
          clear hK K hHeld71
          try simp only [Act.put, List.setIfInBounds_toArray, List.set]
          refine wu 13 rfl ?_
          refine wy 14 rfl fun K hK => ?_
          go_simp
          refine hK.out _ _ ?_ (fun hHeld73 => ?_)
          · trivial
          clear hK K hHeld72
          try simp only [Act.put, List.setIfInBounds_toArray, List.set]
          refine wpAnyH_done (by kernel_rfl) ?_ _
          refine NoPanic.normal ?_
          have ho1 : ((((w3.setCell ⟨w.heap.size, 3, none⟩ (.slice ao1 m.s.reads.length cp1))).setCell ⟨w.heap.size, 4, none⟩ (.slice ao2 m.s.spans.length cp2)).setCell ⟨w.heap.size, 5, none⟩ (.slice ao3 m.s.writes.length cp3)).ownsRow Y.drew.heap.size 63 1 (.slice ao1 m.s.reads.length cp1) m.s.reads.length (cellsF m.s.reads) := own_keep HO1c.out fun g hg _ => set_far (set_far (set_far rfl (by have := (HO1c.out.lt g hg).1; omega)) (by have := (HO1c.out.lt g hg).1; omega)) (by have := (HO1c.out.lt g hg).1; omega)
          have ho2 : ((((w3.setCell ⟨w.heap.size, 3, none⟩ (.slice ao1 m.s.reads.length cp1))).setCell ⟨w.heap.size, 4, none⟩ (.slice ao2 m.s.spans.length cp2)).setCell ⟨w.heap.size, 5, none⟩ (.slice ao3 m.s.writes.length cp3)).ownsRow w1.heap.size 101 4 (.slice ao2 m.s.spans.length cp2) m.s.spans.length (m.s.spans.flatMap Spn.cells) := own_keep HO2c.out fun g hg _ => set_far (set_far (set_far rfl (by have := (HO2c.out.lt g hg).1; omega)) (by have := (HO2c.out.lt g hg).1; omega)) (by have := (HO2c.out.lt g hg).1; omega)
          have ho3 : ((((w3.setCell ⟨w.heap.size, 3, none⟩ (.slice ao1 m.s.reads.length cp1))).setCell ⟨w.heap.size, 4, none⟩ (.slice ao2 m.s.spans.length cp2)).setCell ⟨w.heap.size, 5, none⟩ (.slice ao3 m.s.writes.length cp3)).ownsRow w2.heap.size 63 1 (.slice ao3 m.s.writes.length cp3) m.s.writes.length (cellsF m.s.writes) := own_keep HO3.out fun g hg _ => set_far (set_far (set_far rfl (by have := (HO3.out.lt g hg).1; omega)) (by have := (HO3.out.lt g hg).1; omega)) (by have := (HO3.out.lt g hg).1; omega)
          have HO1d := Lib.hid ho1
          have HO2d := Lib.hid ho2
          have HO3d := Lib.hid ho3
          clear ho1 ho2 ho3
          go_wp2_with fail
          go_meet
          exact ⟨ao1, cp1, ao2, cp2, ao3, cp3, set_block (i := 5) (set_block (i := 4) (set_block (i := 3) HC3.out _) _) _, set_far (set_far (set_far HL3.out (by omega)) (by omega)) (by omega), ⟨HM.out.words, RowN.of_own HO1d.out, RowN.of_own HO2d.out, RowN.of_own HO3d.out, HM.out.lr, HM.out.ls, HM.out.lw⟩, below_set (below_set (below_set HB3.out _ (Nat.le_refl _)) _ (Nat.le_refl _)) _ (Nat.le_refl _), fun b off h => Nat.le_trans hy2 (own_from HO1d.out b off h), fun b off h => Nat.le_trans (Nat.le_trans hy2 hs1) (own_from HO2d.out b off h), fun b off h => Nat.le_trans (Nat.le_trans hy2 (Nat.le_trans hs1 hs2)) (own_from HO3d.out b off h)⟩
      · skip
        go_simp
        refine hK.out _ _ ?_ (fun hHeld74 => ?_)
        · trivial
        clear hK K hHeld60
        try simp only [Act.put, List.setIfInBounds_toArray, List.set]
        refine wy 2 rfl fun K hK => ?_
        go_simp
        refine (H1.out _ HBY.out.drew).mono ?_
        rintro e w1 ⟨ao1, cp1, rfl, hown1, hb1⟩
        have HB1 : Hid (Below w.heap.size w w1) := below_then HBY.out.drew hb1
        have HC1 : Hid (w1.heap[w.heap.size]? = _) := (hb1.block _ (lt_of_block HYB.out)).trans HYB.out
        have HL1 : Hid (w1.heap[w.heap.size + 1]? = _) := (hb1.block _ (lt_of_block HYL.out)).trans HYL.out
        have HO1 := Lib.hid hown1
        have hs1 := hb1.size
        obtain ⟨_, _, _, _, d4, d5⟩ := six_cells HC1.out
        clear hown1 hb1
        go_wp2_with fail
        refine hK.out _ _ ?_ (fun hHeld75 => ?_)
        · trivial
        clear hK K hHeld74
        try simp only [Act.put, List.setIfInBounds_toArray, List.set]
        refine wu 9 rfl ?_
        refine wy 5 rfl fun K hK => ?_
        go_simp
        refine (H2.out _ HB1.out).mono ?_
        rintro e w2 ⟨ao2, cp2, rfl, hown2, hb2⟩
        have HB2 : Hid (Below w.heap.size w w2) := below_then HB1.out hb2
        have HC2 : Hid (w2.heap[w.heap.size]? = _) := (hb2.block _ (lt_of_block HC1.out)).trans HC1.out
        have HL2 : Hid (w2.heap[w.heap.size + 1]? = _) := (hb2.block _ (lt_of_block HL1.out)).trans HL1.out
        have HO2 := Lib.hid hown2
        have hs2 := hb2.size
        obtain ⟨_, _, _, _, _, g5⟩ := six_cells HC2.out
        have HO1b := Lib.hid (own_below HO1.out hb2 (Nat.le_refl _))
        clear hown2 hb2
        go_wp2_with fail
        refine hK.out _ _ ?_ (fun hHeld76 => ?_)
        · trivial
        clear hK K hHeld75
        try simp only [Act.put, List.setIfInBounds_toArray, List.set]
        refine wy 8 rfl fun K hK => ?_
        go_simp
        refine (H3.out _ HB2.out).mono ?_
        rintro e w3 ⟨ao3, cp3, rfl, hown3, hb3⟩
        have HB3 : Hid (Below w.heap.size w w3) := below_then HB2.out hb3
        have HC3 : Hid (w3.heap[w.heap.size]? = _) := (hb3.block _ (lt_of_block HC2.out)).trans HC2.out
        have HL3 : Hid (w3.heap[w.heap.size + 1]? = _) := (hb3.block _ (lt_of_block HL2.out)).trans HL2.out
        have HO3 := Lib.hid hown3
        have hs3 := hb3.size
        have HO1c := Lib.hid (own_below HO1b.out hb3 (Nat.le_refl _))
        have HO2c := Lib.hid (own_below HO2.out hb3 (Nat.le_refl _))
        obtain ⟨f0, f1, f2, f3, f4, f5⟩ := six_frz HC3.out
        obtain ⟨k0, k1, k2, k3, k4, k5⟩ := six_cells HC3.out
        clear hown3 hb3
        go_wp2_with fail
        refine hK.out _ _ ?_ (fun hHeld77 => ?_)
        · trivial
        clear hK K hHeld76
        try simp only [Act.put, List.setIfInBounds_toArray, List.set]
        refine wy 10 rfl fun K hK => ?_
        go_simp
        refine hK.out _ _ ?_ (fun hHeld78 => ?_)
        · trivial
        clear hK K hHeld77
        try simp only [Act.put, List.setIfInBounds_toArray, List.set]
        refine wu 11 rfl ?_
        refine wy 12 rfl fun K hK => ?_
        go_simp
        refine hK.out _ _ ?_ (fun hHeld79 => ?_)
        · trivial
        clear hK K hHeld78
        try simp only [Act.put, List.setIfInBounds_toArray, List.set]
        refine wu 13 rfl ?_
        refine wy 14 rfl fun K hK => ?_
        go_simp
        refine hK.out _ _ ?_ (fun hHeld80 => ?_)
        · trivial
        clear hK K hHeld79
        try simp only [Act.put, List.setIfInBounds_toArray, List.set]
        refine wpAnyH_done (by kernel_rfl) ?_ _
        refine NoPanic.normal ?_
        have ho1 : ((((w3.setCell ⟨w.heap.size, 3, none⟩ (.slice ao1 m.s.reads.length cp1))).setCell ⟨w.heap.size, 4, none⟩ (.slice ao2 m.s.spans.length cp2)).setCell ⟨w.heap.size, 5, none⟩ (.slice ao3 m.s.writes.length cp3)).ownsRow Y.drew.heap.size 63 1 (.slice ao1 m.s.reads.length cp1) m.s.reads.length (cellsF m.s.reads) := own_keep HO1c.out fun g hg _ => set_far (set_far (set_far rfl (by have := (HO1c.out.lt g hg).1; omega)) (by have := (HO1c.out.lt g hg).1; omega)) (by have := (HO1c.out.lt g hg).1; omega)
        have ho2 : ((((w3.setCell ⟨w.heap.size, 3, none⟩ (.slice ao1 m.s.reads.length cp1))).setCell ⟨w.heap.size, 4, none⟩ (.slice ao2 m.s.spans.length cp2)).setCell ⟨w.heap.size, 5, none⟩ (.slice ao3 m.s.writes.length cp3)).ownsRow w1.heap.size 101 4 (.slice ao2 m.s.spans.length cp2) m.s.spans.length (m.s.spans.flatMap Spn.cells) := own_keep HO2c.out fun g hg _ => set_far (set_far (set_far rfl (by have := (HO2c.out.lt g hg).1; omega)) (by have := (HO2c.out.lt g hg).1; omega)) (by have := (HO2c.out.lt g hg).1; omega)
        have ho3 : ((((w3.setCell ⟨w.heap.size, 3, none⟩ (.slice ao1 m.s.reads.length cp1))).setCell ⟨w.heap.size, 4, none⟩ (.slice ao2 m.s.spans.length cp2)).setCell ⟨w.heap.size, 5, none⟩ (.slice ao3 m.s.writes.length cp3)).ownsRow w2.heap.size 63 1 (.slice ao3 m.s.writes.length cp3) m.s.writes.length (cellsF m.s.writes) := own_keep HO3.out fun g hg _ => set_far (set_far (set_far rfl (by have := (HO3.out.lt g hg).1; omega)) (by have := (HO3.out.lt g hg).1; omega)) (by have := (HO3.out.lt g hg).1; omega)
        have HO1d := Lib.hid ho1
        have HO2d := Lib.hid ho2
        have HO3d := Lib.hid ho3
        clear ho1 ho2 ho3
        go_wp2_with fail
        go_meet
        exact ⟨ao1, cp1, ao2, cp2, ao3, cp3, set_block (i := 5) (set_block (i := 4) (set_block (i := 3) HC3.out _) _) _, set_far (set_far (set_far HL3.out (by omega)) (by omega)) (by omega), ⟨HM.out.words, RowN.of_own HO1d.out, RowN.of_own HO2d.out, RowN.of_own HO3d.out, HM.out.lr, HM.out.ls, HM.out.lw⟩, below_set (below_set (below_set HB3.out _ (Nat.le_refl _)) _ (Nat.le_refl _)) _ (Nat.le_refl _), fun b off h => Nat.le_trans hy2 (own_from HO1d.out b off h), fun b off h => Nat.le_trans (Nat.le_trans hy2 hs1) (own_from HO2d.out b off h), fun b off h => Nat.le_trans (Nat.le_trans hy2 (Nat.le_trans hs1 hs2)) (own_from HO3d.out b off h)⟩
    · skip
      go_simp
      refine hK.out _ _ ?_ (fun hHeld81 => ?_)
      · trivial
      clear hK K hHeld59
      try simp only [Act.put, List.setIfInBounds_toArray, List.set]
      refine wy 1 rfl fun K hK => ?_
      go_simp
      refine hK.out _ _ ?_ (fun hHeld82 => ?_)
      · trivial
      clear hK K hHeld81
      try simp only [Act.put, List.setIfInBounds_toArray, List.set]
      refine wy 2 rfl fun K hK => ?_
      go_simp
      refine (H1.out _ HBY.out.drew).mono ?_
      rintro e w1 ⟨ao1, cp1, rfl, hown1, hb1⟩
      have HB1 : Hid (Below w.heap.size w w1) := below_then HBY.out.drew hb1
      have HC1 : Hid (w1.heap[w.heap.size]? = _) := (hb1.block _ (lt_of_block HYB.out)).trans HYB.out
      have HL1 : Hid (w1.heap[w.heap.size + 1]? = _) := (hb1.block _ (lt_of_block HYL.out)).trans HYL.out
      have HO1 := Lib.hid hown1
      have hs1 := hb1.size
      obtain ⟨_, _, _, _, d4, d5⟩ := six_cells HC1.out
      clear hown1 hb1
      go_wp2_with fail
      refine hK.out _ _ ?_ (fun hHeld83 => ?_)
      · trivial
      clear hK K hHeld82
      try simp only [Act.put, List.setIfInBounds_toArray, List.set]
      refine wu 9 rfl ?_
      refine wy 5 rfl fun K hK => ?_
      go_simp
      refine (H2.out _ HB1.out).mono ?_
      rintro e w2 ⟨ao2, cp2, rfl, hown2, hb2⟩
      have HB2 : Hid (Below w.heap.size w w2) := below_then HB1.out hb2
      have HC2 : Hid (w2.heap[w.heap.size]? = _) := (hb2.block _ (lt_of_block HC1.out)).trans HC1.out
      have HL2 : Hid (w2.heap[w.heap.size + 1]? = _) := (hb2.block _ (lt_of_block HL1.out)).trans HL1.out
      have HO2 := Lib.hid hown2
      have hs2 := hb2.size
      obtain ⟨_, _, _, _, _, g5⟩ := six_cells HC2.out
      have HO1b := Lib.hid (own_below HO1.out hb2 (Nat.le_refl _))
      clear hown2 hb2
      go_wp2_with fail
      refine hK.out _ _ ?_ (fun hHeld84 => ?_)
      · trivial
      clear hK K hHeld83
      try simp only [Act.put, List.setIfInBounds_toArray, List.set]
      refine wy 8 rfl fun K hK => ?_
      go_simp
      refine (H3.out _ HB2.out).mono ?_
      rintro e w3 ⟨ao3, cp3, rfl, hown3, hb3⟩
      have HB3 : Hid (Below w.heap.size w w3) := below_then HB2.out hb3
      have HC3 : Hid (w3.heap[w.heap.size]? = _) := (hb3.block _ (lt_of_block HC2.out)).trans HC2.out
      have HL3 : Hid (w3.heap[w.heap.size + 1]? = _) := (hb3.block _ (lt_of_block HL2.out)).trans HL2.out
      have HO3 := Lib.hid hown3
      have hs3 := hb3.size
      have HO1c := Lib.hid (own_below HO1b.out hb3 (Nat.le_refl _))
      have HO2c := Lib.hid (own_below HO2.out hb3 (Nat.le_refl _))
      obtain ⟨f0, f1, f2, f3, f4, f5⟩ := six_frz HC3.out
      obtain ⟨k0, k1, k2, k3, k4, k5⟩ := six_cells HC3.out
      clear hown3 hb3
      go_wp2_with fail
      refine hK.out _ _ ?_ (fun hHeld85 => ?_)
      · trivial
      clear hK K hHeld84
      try simp only [Act.put, List.setIfInBounds_toArray, List.set]
      refine wy 10 rfl fun K hK => ?_
      go_simp
      refine hK.out _ _ ?_ (fun hHeld86 => ?_)
      · trivial
      clear hK K hHeld85
      try simp only [Act.put, List.setIfInBounds_toArray, List.set]
      refine wu 11 rfl ?_
      refine wy 12 rfl fun K hK => ?_
      go_simp
      refine hK.out _ _ ?_ (fun hHeld87 => ?_)
      · trivial
      clear hK K hHeld86
      try simp only [Act.put, List.setIfInBounds_toArray, List.set]
      refine wu 13 rfl ?_
      refine wy 14 rfl fun K hK => ?_
      go_simp
      refine hK.out _ _ ?_ (fun hHeld88 => ?_)
      · trivial
      clear hK K hHeld87
      try simp only [Act.put, List.setIfInBounds_toArray, List.set]
      refine wpAnyH_done (by kernel_rfl) ?_ _
      refine NoPanic.normal ?_
      have ho1 : ((((w3.setCell ⟨w.heap.size, 3, none⟩ (.slice ao1 m.s.reads.length cp1))).setCell ⟨w.heap.size, 4, none⟩ (.slice ao2 m.s.spans.length cp2)).setCell ⟨w.heap.size, 5, none⟩ (.slice ao3 m.s.writes.length cp3)).ownsRow Y.drew.heap.size 63 1 (.slice ao1 m.s.reads.length cp1) m.s.reads.length (cellsF m.s.reads) := own_keep HO1c.out fun g hg _ => set_far (set_far (set_far rfl (by have := (HO1c.out.lt g hg).1; omega)) (by have := (HO1c.out.lt g hg).1; omega)) (by have := (HO1c.out.lt g hg).1; omega)
      have ho2 : ((((w3.setCell ⟨w.heap.size, 3, none⟩ (.slice ao1 m.s.reads.length cp1))).setCell ⟨w.heap.size, 4, none⟩ (.slice ao2 m.s.spans.length cp2)).setCell ⟨w.heap.size, 5, none⟩ (.slice ao3 m.s.writes.length cp3)).ownsRow w1.heap.size 101 4 (.slice ao2 m.s.spans.length cp2) m.s.spans.length (m.s.spans.flatMap Spn.cells) := own_keep HO2c.out fun g hg _ => set_far (set_far (set_far rfl (by have := (HO2c.out.lt g hg).1; omega)) (by have := (HO2c.out.lt g hg).1; omega)) (by have := (HO2c.out.lt g hg).1; omega)
      have ho3 : ((((w3.setCell ⟨w.heap.size, 3, none⟩ (.slice ao1 m.s.reads.length cp1))).setCell ⟨w.heap.size, 4, none⟩ (.slice ao2 m.s.spans.length cp2)).setCell ⟨w.heap.size, 5, none⟩ (.slice ao3 m.s.writes.length cp3)).ownsRow w2.heap.size 63 1 (.slice ao3 m.s.writes.length cp3) m.s.writes.length (cellsF m.s.writes) := own_keep HO3.out fun g hg _ => set_far (set_far (set_far rfl (by have := (HO3.out.lt g hg).1; omega)) (by have := (HO3.out.lt g hg).1; omega)) (by have := (HO3.out.lt g hg).1; omega)
      have HO1d := Lib.hid ho1
      have HO2d := Lib.hid ho2
      have HO3d := Lib.hid ho3
      clear ho1 ho2 ho3
      go_wp2_with fail
      go_meet
      exact ⟨ao1, cp1, ao2, cp2, ao3, cp3, set_block (i := 5) (set_block (i := 4) (set_block (i := 3) HC3.out _) _) _, set_far (set_far (set_far HL3.out (by omega)) (by omega)) (by omega), ⟨HM.out.words, RowN.of_own HO1d.out, RowN.of_own HO2d.out, RowN.of_own HO3d.out, HM.out.lr, HM.out.ls, HM.out.lw⟩, below_set (below_set (below_set HB3.out _ (Nat.le_refl _)) _ (Nat.le_refl _)) _ (Nat.le_refl _), fun b off h => Nat.le_trans hy2 (own_from HO1d.out b off h), fun b off h => Nat.le_trans (Nat.le_trans hy2 hs1) (own_from HO2d.out b off h), fun b off h => Nat.le_trans (Nat.le_trans hy2 (Nat.le_trans hs1 hs2)) (own_from HO3d.out b off h)⟩
  · skip
    go_simp
    refine hK.out _ _ ?_ (fun hHeld89 => ?_)
    · trivial
    clear hK K hHeld0
    try simp only [Act.put, List.setIfInBounds_toArray, List.set]
    refine wz 1 4 rfl (fun K hK => ?_) rfl fun K hK => ?_
    · skip
      go_simp
      refine hK.out _ _ ?_ (fun hHeld90 => ?_)
      · trivial
      clear hK K hHeld89
      try simp only [Act.put, List.setIfInBounds_toArray, List.set]
      refine wz 2 4 rfl (fun K hK => ?_) rfl fun K hK => ?_
      · skip
        go_simp
        refine (H1.out _ HBY.out.drew).mono ?_
        rintro e w1 ⟨ao1, cp1, rfl, hown1, hb1⟩
        have HB1 : Hid (Below w.heap.size w w1) := below_then HBY.out.drew hb1
        have HC1 : Hid (w1.heap[w.heap.size]? = _) := (hb1.block _ (lt_of_block HYB.out)).trans HYB.out
        have HL1 : Hid (w1.heap[w.heap.size + 1]? = _) := (hb1.block _ (lt_of_block HYL.out)).trans HYL.out
        have HO1 := Lib.hid hown1
        have hs1 := hb1.size
        obtain ⟨_, _, _, _, d4, d5⟩ := six_cells HC1.out
        clear hown1 hb1
        go_wp2_with fail
        refine hK.out _ _ ?_ (fun hHeld91 => ?_)
        · trivial
        clear hK K hHeld90
        try simp only [Act.put, List.setIfInBounds_toArray, List.set]
        refine wy 4 rfl fun K hK => ?_
        go_simp
        refine hK.out _ _ ?_ (fun hHeld92 => ?_)
        · trivial
        clear hK K hHeld91
        try simp only [Act.put, List.setIfInBounds_toArray, List.set]
        refine wu 9 rfl ?_
        refine wy 5 rfl fun K hK => ?_
        go_simp
        refine (H2.out _ HB1.out).mono ?_
        rintro e w2 ⟨ao2, cp2, rfl, hown2, hb2⟩
        have HB2 : Hid (Below w.heap.size w w2) := below_then HB1.out hb2
        have HC2 : Hid (w2.heap[w.heap.size]? = _) := (hb2.block _ (lt_of_block HC1.out)).trans HC1.out
        have HL2 : Hid (w2.heap[w.heap.size + 1]? = _) := (hb2.block _ (lt_of_block HL1.out)).trans HL1.out
        have HO2 := Lib.hid hown2
        have hs2 := hb2.size
        obtain ⟨_, _, _, _, _, g5⟩ := six_cells HC2.out
        have HO1b := Lib.hid (own_below HO1.out hb2 (Nat.le_refl _))
        clear hown2 hb2
        go_wp2_with fail
        refine hK.out _ _ ?_ (fun hHeld93 => ?_)
        · trivial
        clear hK K hHeld92
        try simp only [Act.put, List.setIfInBounds_toArray, List.set]
        refine wy 8 rfl fun K hK => ?_
        go_simp
        refine (H3.out _ HB2.out).mono ?_
        rintro e w3 ⟨ao3, cp3, rfl, hown3, hb3⟩
        have HB3 : Hid (Below w.heap.size w w3) := below_then HB2.out hb3
        have HC3 : Hid (w3.heap[w.heap.size]? = _) := (hb3.block _ (lt_of_block HC2.out)).trans HC2.out
        have HL3 : Hid (w3.heap[w.heap.size + 1]? = _) := (hb3.block _ (lt_of_block HL2.out)).trans HL2.out
        have HO3 := Lib.hid hown3
        have hs3 := hb3.size
        have HO1c := Lib.hid (own_below HO1b.out hb3 (Nat.le_refl _))
        have HO2c := Lib.hid (own_below HO2.out hb3 (Nat.le_refl _))
        obtain ⟨f0, f1, f2, f3, f4, f5⟩ := six_frz HC3.out
        obtain ⟨k0, k1, k2, k3, k4, k5⟩ := six_cells HC3.out
        clear hown3 hb3
        go_wp2_with fail
        refine hK.out _ _ ?_ (fun hHeld94 => ?_)
        · trivial
        clear hK K hHeld93
        try simp only [Act.put, List.setIfInBounds_toArray, List.set]
        refine wy 10 rfl fun K hK => ?_
        go_simp
        refine hK.out _ _ ?_ (fun hHeld95 => ?_)
        · trivial
        clear hK K hHeld94
        try simp only [Act.put, List.setIfInBounds_toArray, List.set]
        refine wu 11 rfl ?_
        refine wy 12 rfl fun K hK => ?_
        go_simp
        refine hK.out _ _ ?_ (fun hHeld96 => ?_)
        · trivial
        clear hK K hHeld95
        try simp only [Act.put, List.setIfInBounds_toArray, List.set]
        refine wu 13 rfl ?_
        refine wy 14 rfl fun K hK => ?_
        go_simp
        refine hK.out _ _ ?_ (fun hHeld97 => ?_)
        · trivial
        clear hK K hHeld96
        try simp only [Act.put, List.setIfInBounds_toArray, List.set]
        refine wpAnyH_done (by kernel_rfl) ?_ _
        refine NoPanic.normal ?_
        have ho1 : ((((w3.setCell ⟨w.heap.size, 3, none⟩ (.slice ao1 m.s.reads.length cp1))).setCell ⟨w.heap.size, 4, none⟩ (.slice ao2 m.s.spans.length cp2)).setCell ⟨w.heap.size, 5, none⟩ (.slice ao3 m.s.writes.length cp3)).ownsRow Y.drew.heap.size 63 1 (.slice ao1 m.s.reads.length cp1) m.s.reads.length (cellsF m.s.reads) := own_keep HO1c.out fun g hg _ => set_far (set_far (set_far rfl (by have := (HO1c.out.lt g hg).1; omega)) (by have := (HO1c.out.lt g hg).1; omega)) (by have := (HO1c.out.lt g hg).1; omega)
        have ho2 : ((((w3.setCell ⟨w.heap.size, 3, none⟩ (.slice ao1 m.s.reads.length cp1))).setCell ⟨w.heap.size, 4, none⟩ (.slice ao2 m.s.spans.length cp2)).setCell ⟨w.heap.size, 5, none⟩ (.slice ao3 m.s.writes.length cp3)).ownsRow w1.heap.size 101 4 (.slice ao2 m.s.spans.length cp2) m.s.spans.length (m.s.spans.flatMap Spn.cells) := own_keep HO2c.out fun g hg _ => set_far (set_far (set_far rfl (by have := (HO2c.out.lt g hg).1; omega)) (by have := (HO2c.out.lt g hg).1; omega)) (by have := (HO2c.out.lt g hg).1; omega)
        have ho3 : ((((w3.setCell ⟨w.heap.size, 3, none⟩ (.slice ao1 m.s.reads.length cp1))).setCell ⟨w.heap.size, 4, none⟩ (.slice ao2 m.s.spans.length cp2)).setCell ⟨w.heap.size, 5, none⟩ (.slice ao3 m.s.writes.length cp3)).ownsRow w2.heap.size 63 1 (.slice ao3 m.s.writes.length cp3) m.s.writes.length (cellsF m.s.writes) := own_keep HO3.out fun g hg _ => set_far (set_far (set_far rfl (by have := (HO3.out.lt g hg).1; omega)) (by have := (HO3.out.lt g hg).1; omega)) (by have := (HO3.out.lt g hg).1; omega)
        have HO1d := Lib.hid ho1
        have HO2d := Lib.hid ho2
        have HO3d := Lib.hid ho3
        clear ho1 ho2 ho3
        go_wp2_with fail
        go_meet
        exact ⟨ao1, cp1, ao2, cp2, ao3, cp3, set_block (i := 5) (set_block (i := 4) (set_block (i := 3) HC3.out _) _) _, set_far (set_far (set_far HL3.out (by omega)) (by omega)) (by omega), ⟨HM.out.words, RowN.of_own HO1d.out, RowN.of_own HO2d.out, RowN.of_own HO3d.out, HM.out.lr, HM.out.ls, HM.out.lw⟩, below_set (below_set (below_set HB3.out _ (Nat.le_refl _)) _ (Nat.le_refl _)) _ (Nat.le_refl _), fun b off h => Nat.le_trans hy2 (own_from HO1d.out b off h), fun b off h => Nat.le_trans (Nat.le_trans hy2 hs1) (own_from HO2d.out b off h), fun b off h => Nat.le_trans (Nat.le_trans hy2 (Nat.le_trans hs1 hs2)) (own_from HO3d.out b off h)⟩
      · skip
        go_simp
        refine hK.out _ _ ?_ (fun hHeld98 => ?_)
        · trivial
        clear hK K hHeld90
        try simp only [Act.put, List.setIfInBounds_toArray, List.set]
        refine wy 2 rfl fun K hK => ?_
        go_simp
        refine (H1.out _ HBY.out.drew).mono ?_
        rintro e w1 ⟨ao1, cp1, rfl, hown1, hb1⟩
        have HB1 : Hid (Below w.heap.size w w1) := below_then HBY.out.drew hb1
        have HC1 : Hid (w1.heap[w.heap.size]? = _) := (hb1.block _ (lt_of_block HYB.out)).trans HYB.out
        have HL1 : Hid (w1.heap[w.heap.size + 1]? = _) := (hb1.block _ (lt_of_block HYL.out)).trans HYL.out
        have HO1 := Lib.hid hown1
        have hs1 := hb1.size
        obtain ⟨_, _, _, _, d4, d5⟩ := six_cells HC1.out
        clear hown1 hb1
        go_wp2_with fail
        refine hK.out _ _ ?_ (fun hHeld99 => ?_)
        · trivial
        clear hK K hHeld98
        try simp only [Act.put, List.setIfInBounds_toArray, List.set]
        refine wu 9 rfl ?_
        refine wy 5 rfl fun K hK => ?_
        go_simp
        refine (H2.out _ HB1.out).mono ?_
        rintro e w2 ⟨ao2, cp2, rfl, hown2, hb2⟩
        have HB2 : Hid (Below w.heap.size w w2) := below_then HB1.out hb2
        have HC2 : Hid (w2.heap[w.heap.size]? = _) := (hb2.block _ (lt_of_block HC1.out)).trans HC1.out
        have HL2 : Hid (w2.heap[w.heap.size + 1]? = _) := (hb2.block _ (lt_of_block HL1.out)).trans HL1.out
        have HO2 := Lib.hid hown2
        have hs2 := hb2.size
        obtain ⟨_, _, _, _, _, g5⟩ := six_cells HC2.out
        have HO1b := Lib.hid (own_below HO1.out hb2 (Nat.le_refl _))
        clear hown2 hb2
        go_wp2_with fail
        refine hK.out _ _ ?_ (fun hHeld100 => ?_)
        · trivial
        clear hK K hHeld99
        try simp only [Act.put, List.setIfInBounds_toArray, List.set]
        refine wy 8 rfl fun K hK => ?_
        go_simp
        refine (H3.out _ HB2.out).mono ?_
        rintro e w3 ⟨ao3, cp3, rfl, hown3, hb3⟩
        have HB3 : Hid (Below w.heap.size w w3) := below_then HB2.out hb3
        have HC3 : Hid (w3.heap[w.heap.size]? = _) := (hb3.block _ (lt_of_block HC2.out)).trans HC2.out
        have HL3 : Hid (w3.heap[w.heap.size + 1]? = _) := (hb3.block _ (lt_of_block HL2.out)).trans HL2.out
        have HO3 := Lib.hid hown3
        have hs3 := hb3.size
        have HO1c := Lib.hid (own_below HO1b.out hb3 (Nat.le_refl _))
        have HO2c := Lib.hid (own_below HO2.out hb3 (Nat.le_refl _))
        obtain ⟨f0, f1, f2, f3, f4, f5⟩ := six_frz HC3.out
        obtain ⟨k0, k1, k2, k3, k4, k5⟩ := six_cells HC3.out
        clear hown3 hb3
        go_wp2_with fail
        refine hK.out _ _ ?_ (fun hHeld101 => ?_)
        · trivial
        clear hK K hHeld100
        try simp only [Act.put, List.setIfInBounds_toArray, List.set]
        refine wy 10 rfl fun K hK => ?_
        go_simp
        refine hK.out _ _ ?_ (fun hHeld102 => ?_)
        · trivial
        clear hK K hHeld101
        try simp only [Act.put, List.setIfInBounds_toArray, List.set]
        refine wu 11 rfl ?_
        refine wy 12 rfl fun K hK => ?_
        go_simp
        refine hK.out _ _ ?_ (fun hHeld103 => ?_)
        · trivial
        clear hK K hHeld102
        try simp only [Act.put, List.setIfInBounds_toArray, List.set]
        refine wu 13 rfl ?_
        refine wy 14 rfl fun K hK => ?_
        go_simp
        refine hK.out _ _ ?_ (fun hHeld104 => ?_)
        · trivial
        clear hK K hHeld103
        try simp only [Act.put, List.setIfInBounds_toArray, List.set]
        refine wpAnyH_done (by kernel_rfl) ?_ _
        refine NoPanic.normal ?_
        have ho1 : ((((w3.setCell ⟨w.heap.size, 3, none⟩ (.slice ao1 m.s.reads.length cp1))).setCell ⟨w.heap.size, 4, none⟩ (.slice ao2 m.s.spans.length cp2)).setCell ⟨w.heap.size, 5, none⟩ (.slice ao3 m.s.writes.length cp3)).ownsRow Y.drew.heap.size 63 1 (.slice ao1 m.s.reads.length cp1) m.s.reads.length (cellsF m.s.reads) := own_keep HO1c.out fun g hg _ => set_far (set_far (set_far rfl (by have := (HO1c.out.lt g hg).1; omega)) (by have := (HO1c.out.lt g hg).1; omega)) (by have := (HO1c.out.lt g hg).1; omega)
        have ho2 : ((((w3.setCell ⟨w.heap.size, 3, none⟩ (.slice ao1 m.s.reads.length cp1))).setCell ⟨w.heap.size, 4, none⟩ (.slice ao2 m.s.spans.length cp2)).setCell ⟨w.heap.size, 5, none⟩ (.slice ao3 m.s.writes.length cp3)).ownsRow w1.heap.size 101 4 (.slice ao2 m.s.spans.length cp2) m.s.spans.length (m.s.spans.flatMap Spn.cells) := own_keep HO2c.out fun g hg _ => set_far (set_far (set_far rfl (by have := (HO2c.out.lt g hg).1; omega)) (by have := (HO2c.out.lt g hg).1; omega)) (by have := (HO2c.out.lt g hg).1; omega)
        have ho3 : ((((w3.setCell ⟨w.heap.size, 3, none⟩ (.slice ao1 m.s.reads.length cp1))).setCell ⟨w.heap.size, 4, none⟩ (.slice ao2 m.s.spans.length cp2)).setCell ⟨w.heap.size, 5, none⟩ (.slice ao3 m.s.writes.length cp3)).ownsRow w2.heap.size 63 1 (.slice ao3 m.s.writes.length cp3) m.s.writes.length (cellsF m.s.writes) := own_keep HO3.out fun g hg _ => set_far (set_far (set_far rfl (by have := (HO3.out.lt g hg).1; omega)) (by have := (HO3.out.lt g hg).1; omega)) (by have := (HO3.out.lt g hg).1; omega)
        have HO1d := Lib.hid ho1
        have HO2d := Lib.hid ho2
        have HO3d := Lib.hid ho3
        clear ho1 ho2 ho3
        go_wp2_with fail
        go_meet
        exact ⟨ao1, cp1, ao2, cp2, ao3, cp3, set_block (i := 5) (set_block (i := 4) (set_block (i := 3) HC3.out _) _) _, set_far (set_far (set_far HL3.out (by omega)) (by omega)) (by omega), ⟨HM.out.words, RowN.of_own HO1d.out, RowN.of_own HO2d.out, RowN.of_own HO3d.out, HM.out.lr, HM.out.ls, HM.out.lw⟩, below_set (below_set (below_set HB3.out _ (Nat.le_refl _)) _ (Nat.le_refl _)) _ (Nat.le_refl _), fun b off h => Nat.le_trans hy2 (own_from HO1d.out b off h), fun b off h => Nat.le_trans (Nat.le_trans hy2 hs1) (own_from HO2d.out b off h), fun b off h => Nat.le_trans (Nat.le_trans hy2 (Nat.le_trans hs1 hs2)) (own_from HO3d.out b off h)⟩
    · skip
      go_simp
      refine hK.out _ _ ?_ (fun hHeld105 => ?_)
      · trivial
      clear hK K hHeld89
      try simp only [Act.put, List.setIfInBounds_toArray, List.set]
      refine wy 1 rfl fun K hK => ?_
      go_simp
      refine hK.out _ _ ?_ (fun hHeld106 => ?_)
      · trivial
      clear hK K hHeld105
      try simp only [Act.put, List.setIfInBounds_toArray, List.set]
      refine wy 2 rfl fun K hK => ?_
      go_simp
      refine (H1.out _ HBY.out.drew).mono ?_
      rintro e w1 ⟨ao1, cp1, rfl, hown1, hb1⟩
      have HB1 : Hid (Below w.heap.size w w1) := below_then HBY.out.drew hb1
      have HC1 : Hid (w1.heap[w.heap.size]? = _) := (hb1.block _ (lt_of_block HYB.out)).trans HYB.out
      have HL1 : Hid (w1.heap[w.heap.size + 1]? = _) := (hb1.block _ (lt_of_block HYL.out)).trans HYL.out
      have HO1 := Lib.hid hown1
      have hs1 := hb1.size
      obtain ⟨_, _, _, _, d4, d5⟩ := six_cells HC1.out
      clear hown1 hb1
      go_wp2_with fail
      refine hK.out _ _ ?_ (fun hHeld107 => ?_)
      · trivial
      clear hK K hHeld106
      try simp only [Act.put, List.setIfInBounds_toArray, List.set]
      refine wu 9 rfl ?_
      refine wy 5 rfl fun K hK => ?_
      go_simp
      refine (H2.out _ HB1.out).mono ?_
      rintro e w2 ⟨ao2, cp2, rfl, hown2, hb2⟩
      have HB2 : Hid (Below w.heap.size w w2) := below_then HB1.out hb2
      have HC2 : Hid (w2.heap[w.heap.size]? = _) := (hb2.block _ (lt_of_block HC1.out)).trans HC1.out
      have HL2 : Hid (w2.heap[w.heap.size + 1]? = _) := (hb2.block _ (lt_of_block HL1.out)).trans HL1.out
      have HO2 := Lib.hid hown2
      have hs2 := hb2.size
      obtain ⟨_, _, _, _, _, g5⟩ := six_cells HC2.out
      have HO1b := Lib.hid (own_below HO1.out hb2 (Nat.le_refl _))
      clear hown2 hb2
      go_wp2_with fail
      refine hK.out _ _ ?_ (fun hHeld108 => ?_)
      · trivial
      clear hK K hHeld107
      try simp only [Act.put, List.setIfInBounds_toArray, List.set]
      refine wy 8 rfl fun K hK => ?_
      go_simp
      refine (H3.out _ HB2.out).mono ?_
      rintro e w3 ⟨ao3, cp3, rfl, hown3, hb3⟩
      have HB3 : Hid (Below w.heap.size w w3) := below_then HB2.out hb3
      have HC3 : Hid (w3.heap[w.heap.size]? = _) := (hb3.block _ (lt_of_block HC2.out)).trans HC2.out
      have HL3 : Hid (w3.heap[w.heap.size + 1]? = _) := (hb3.block _ (lt_of_block HL2.out)).trans HL2.out
      have HO3 := Lib.hid hown3
      have hs3 := hb3.size
      have HO1c := Lib.hid (own_below HO1b.out hb3 (Nat.le_refl _))
      have HO2c := Lib.hid (own_below HO2.out hb3 (Nat.le_refl _))
      obtain ⟨f0, f1, f2, f3, f4, f5⟩ := six_frz HC3.out
      obtain ⟨k0, k1, k2, k3, k4, k5⟩ := six_cells HC3.out
      clear hown3 hb3
      go_wp2_with fail
      refine hK.out _ _ ?_ (fun hHeld109 => ?_)
      · trivial
      clear hK K hHeld108
      try simp only [Act.put, List.setIfInBounds_toArray, List.set]
      refine wy 10 rfl fun K hK => ?_
      go_simp
      refine hK.out _ _ ?_ (fun hHeld110 => ?_)
      · trivial
      clear hK K hHeld109
      try simp only [Act.put, List.setIfInBounds_toArray, List.set]
      refine wu 11 rfl ?_
      refine wy 12 rfl fun K hK => ?_
      go_simp
      refine hK.out _ _ ?_ (fun hHeld111 => ?_)
      · trivial
      clear hK K hHeld110
      try simp only [Act.put, List.setIfInBounds_toArray, List.set]
      refine wu 13 rfl ?_
      refine wy 14 rfl fun K hK => ?_
      go_simp
      refine hK.out _ _ ?_ (fun hHeld112 => ?_)
      · trivial
      clear hK K hHeld111
      try simp only [Act.put, List.setIfInBounds_toArray, List.set]
      refine wpAnyH_done (by kernel_rfl) ?_ _
      refine NoPanic.normal ?_
      have ho1 : ((((w3.setCell ⟨w.heap.size, 3, none⟩ (.slice ao1 m.s.reads.length cp1))).setCell ⟨w.heap.size, 4, none⟩ (.slice ao2 m.s.spans.length cp2)).setCell ⟨w.heap.size, 5, none⟩ (.slice ao3 m.s.writes.length cp3)).ownsRow Y.drew.heap.size 63 1 (.slice ao1 m.s.reads.length cp1) m.s.reads.length (cellsF m.s.reads) := own_keep HO1c.out fun g hg _ => set_far (set_far (set_far rfl (by have := (HO1c.out.lt g hg).1; omega)) (by have := (HO1c.out.lt g hg).1; omega)) (by have := (HO1c.out.lt g hg).1; omega)
      have ho2 : ((((w3.setCell ⟨w.heap.size, 3, none⟩ (.slice ao1 m.s.reads.length cp1))).setCell ⟨w.heap.size, 4, none⟩ (.slice ao2 m.s.spans.length cp2)).setCell ⟨w.heap.size, 5, none⟩ (.slice ao3 m.s.writes.length cp3)).ownsRow w1.heap.size 101 4 (.slice ao2 m.s.spans.length cp2) m.s.spans.length (m.s.spans.flatMap Spn.cells) := own_keep HO2c.out fun g hg _ => set_far (set_far (set_far rfl (by have := (HO2c.out.lt g hg).1; omega)) (by have := (HO2c.out.lt g hg).1; omega)) (by have := (HO2c.out.lt g hg).1; omega)
      have ho3 : ((((w3.setCell ⟨w.heap.size, 3, none⟩ (.slice ao1 m.s.reads.length cp1))).setCell ⟨w.heap.size, 4, none⟩ (.slice ao2 m.s.spans.length cp2)).setCell ⟨w.heap.size, 5, none⟩ (.slice ao3 m.s.writes.length cp3)).ownsRow w2.heap.size 63 1 (.slice ao3 m.s.writes.length cp3) m.s.writes.length (cellsF m.s.writes) := own_keep HO3.out fun g hg _ => set_far (set_far (set_far rfl (by have := (HO3.out.lt g hg).1; omega)) (by have := (HO3.out.lt g hg).1; omega)) (by have := (HO3.out.lt g hg).1; omega)
      have HO1d := Lib.hid ho1
      have HO2d := Lib.hid ho2
      have HO3d := Lib.hid ho3
      clear ho1 ho2 ho3
      go_wp2_with fail
      go_meet
      exact ⟨ao1, cp1, ao2, cp2, ao3, cp3, set_block (i := 5) (set_block (i := 4) (set_block (i := 3) HC3.out _) _) _, set_far (set_far (set_far HL3.out (by omega)) (by omega)) (by omega), ⟨HM.out.words, RowN.of_own HO1d.out, RowN.of_own HO2d.out, RowN.of_own HO3d.out, HM.out.lr, HM.out.ls, HM.out.lw⟩, below_set (below_set (below_set HB3.out _ (Nat.le_refl _)) _ (Nat.le_refl _)) _ (Nat.le_refl _), fun b off h => Nat.le_trans hy2 (own_from HO1d.out b off h), fun b off h => Nat.le_trans (Nat.le_trans hy2 hs1) (own_from HO2d.out b off h), fun b off h => Nat.le_trans (Nat.le_trans hy2 (Nat.le_trans hs1 hs2)) (own_from HO3d.out b off h)⟩
 case rest =>
 obtain ⟨ao1, cp1, ao2, cp2, ao3, cp3, HP, HQ, HK, HBB, HA1, HA2, HA3⟩ := hcut
 obtain ⟨p0, p1, p2, p3, p4, p5⟩ := six_cells HP.out
 obtain ⟨q0, q1, q2, q3, q4, q5⟩ := six_frz HQ.out
 obtain ⟨r0, r1, r2, r3, r4, r5⟩ := six_cells HQ.out
 go_wp2_with fail
 refine bodyPost_ret (results_cell Tryz.results25 rfl (load_sub (set6 HQ.out (.int .i64 m.s.session) (.int .i64 m.s.seq) (.int .i64 m.s.snap) (.slice ao1 m.s.reads.length cp1) (.slice ao2 m.s.spans.length cp2) (.slice ao3 m.s.writes.length cp3)))) rfl ?_
 refine ⟨⟨m.s, ao1, cp1, ao2, cp2, ao3, cp3⟩, rfl, rfl, ⟨HK.out.words, HK.out.reads.keep fun b off ha _ _ => six_far (by have := HA1.out b off ha; omega) _ _ _ _ _ _, HK.out.spans.keep fun b off ha _ _ => six_far (by have := HA2.out b off ha; omega) _ _ _ _ _ _, HK.out.writes.keep fun b off ha _ _ => six_far (by have := HA3.out b off ha; omega) _ _ _ _ _ _, HK.out.lr, HK.out.ls, HK.out.lw⟩, ?_, fun b off h => by have := HA1.out b off h; omega, fun b off h => by have := HA2.out b off h; omega, fun b off h => by have := HA3.out b off h; omega⟩
 exact below_set (below_set (below_set (below_set (below_set (below_set HBB.out _ (by omega)) _ (by omega)) _ (by omega)) _ (by omega)) _ (by omega)) _ (by omega)
end Go.Proofs.YtpknmfmpiachkaaGreat
