/- The document's ConfAt. -/
import Derived.Test.YtpaommkjafdghaaRm5
namespace Go.Proofs.Ytpaommkjafdghaa
open Go.RowKit

theorem conf_snoc (ix : Int) (cf : List Int × List Int) (l : List En) (e : En) (i : Int) : confAtOf ix cf (l ++ [e]) i = if gives i e = true then ((loadOf e.s.bs).getD ([], []), e.ix) else confAtOf ix cf l i := by
  unfold confAtOf
  rw [List.reverse_append, List.reverse_singleton, List.singleton_append, List.find?_cons]
  cases hg : gives i e <;> simp
/-- It returns a configuration that says this, and an index; its rows lie where P holds. -/
def RConf (P : Nat → Prop) (w : World) (r : (List Int × List Int) × Int) (e : Ending) (w' : World) : Prop :=
  ∃ c : Cf, e = .returned (.tuple #[.agg #[.slice c.v.a c.v.len c.v.cap, .slice c.l.a c.l.len c.l.cap], .int .i64 r.2]) ∧ c.says = r.1 ∧ c.ok w' ∧ CfP P c ∧ Below w.heap.size w w'
theorem CfP.mono {P Q : Nat → Prop} {c : Cf} (h : CfP P c) (hPQ : ∀ b, P b → Q b) : CfP Q c := ⟨fun b o e hn => hPQ b (h.1 b o e hn), fun b o e hn => hPQ b (h.2 b o e hn)⟩
theorem Cf.ok.touch {w w' : World} {c : Cf} {S : List Nat} {P : Nat → Prop} (h : c.ok w) (hP : CfP P c) (ht : Touch S w w') (hS : ∀ b, P b → b ∉ S) : c.ok w' :=
  ⟨⟨h.1.1.touch ht (fun b o e hn => hS b (hP.1 b o e (by omega))), h.1.2⟩, ⟨h.2.1.touch ht (fun b o e hn => hS b (hP.2 b o e (by omega))), h.2.2⟩⟩
theorem Cf.ok.low {w : World} {c : Cf} (h : c.ok w) : CfP (fun b => b < w.heap.size) c := by
  refine ⟨fun b o e hn => ?_, fun b o e hn => ?_⟩
  · have hl : c.v.zs.length = c.v.len := by have := h.1.1.1; rw [cellsZ_len] at this; omega
    obtain ⟨b', o', z, he, _, hc⟩ := cellZ_at h.1.1 0 hn
    rw [e] at he
    injection he with he
    injection he with h1 _ _
    subst h1
    exact World.block_lt_of_cell? w _ hc
  · obtain ⟨b', o', z, he, _, hc⟩ := cellZ_at h.2.1 0 hn
    rw [e] at he
    injection he with he
    injection he with h1 _ _
    subst h1
    exact World.block_lt_of_cell? w _ hc

/-- between two rounds -/
structure CaI (P : Nat → Prop) (w X : World) (ix tm : Int) (c : Cf) (a : Option Addr) (n cap : Nat) (c1 : Cf) (wr : World) : Prop where
  box : wr.heap[w.heap.size]? = some (.cells #[.int .i64 ix, .int .i64 tm, .slice c.v.a c.v.len c.v.cap, .slice c.l.a c.l.len c.l.cap, .slice a n cap] 53 (0, 0))
  res : wr.heap[w.heap.size + 1]? = some (.cells #[.slice none 0 0, .slice none 0 0] 27 (0, 0))
  cur : wr.heap[X.heap.size]? = some (.cells #[.slice c1.v.a c1.v.len c1.v.cap, .slice c1.l.a c1.l.len c1.l.cap] 27 (0, 0))
  ok : c1.ok wr
  at' : CfP (fun b => P b ∧ (b < w.heap.size ∨ X.heap.size < b)) c1
  below : Below w.heap.size w wr
  size : X.heap.size < wr.heap.size
theorem CaI.later {P : Nat → Prop} {w X : World} {ix tm : Int} {c : Cf} {a : Option Addr} {n cap : Nat} {c1 : Cf} {wr wz : World} (h : CaI P w X ix tm c a n cap c1 wr) (hb : Below wr.heap.size wr wz) : CaI P w X ix tm c a n cap c1 wz :=
  ⟨(hb.block _ (lt_of_block h.box)).trans h.box, (hb.block _ (lt_of_block h.res)).trans h.res, (hb.block _ (lt_of_block h.cur)).trans h.cur, h.ok.below hb, h.at', below_then h.below hb, Nat.lt_of_lt_of_le h.size hb.size⟩
theorem CaI.put {P : Nat → Prop} {w X : World} {ix tm : Int} {c : Cf} {a : Option Addr} {n cap : Nat} {c1 c2 : Cf} {wr : World} (h : CaI P w X ix tm c a n cap c1 wr) (hs : X.heap.size = w.heap.size + 2) (h2 : c2.ok wr) (hP : CfP (fun b => P b ∧ (b < w.heap.size ∨ X.heap.size < b)) c2) : CaI P w X ix tm c a n cap c2 ((wr.setCell ⟨X.heap.size, 0, none⟩ (.slice c2.v.a c2.v.len c2.v.cap)).setCell ⟨X.heap.size, 1, none⟩ (.slice c2.l.a c2.l.len c2.l.cap)) := by
  have ht : Touch [X.heap.size] wr ((wr.setCell ⟨X.heap.size, 0, none⟩ (.slice c2.v.a c2.v.len c2.v.cap)).setCell ⟨X.heap.size, 1, none⟩ (.slice c2.l.a c2.l.len c2.l.cap)) := touch_set (touch_set (Touch.refl _ _) _ _ _ (by simp)) _ _ _ (by simp)
  exact ⟨(ht.block _ (lt_of_block h.box) (by simp; omega)).trans h.box, (ht.block _ (lt_of_block h.res) (by simp; omega)).trans h.res, set_block (i := 1) (set_block (i := 0) h.cur _) _,
    h2.touch hP ht (fun b hb hm => by simp at hm; omega), hP, ht.below h.below h.below.size (fun k hk => by simp at hk; omega), Nat.lt_of_lt_of_le h.size ht.size⟩

set_option maxRecDepth 100000 in
set_option maxHeartbeats 6400000 in
theorem rconfAt_any (P : Nat → Prop) (ix tm : Int) (c : Cf) (a : Option Addr) (n cap : Nat) (es : List En) (i : Int) (w : World) (h : EnR w es a n) (hok : ∀ u ∈ es, Sl.ok w u.s) (hc : c.ok w) (hP : CfP P c) (hnew : ∀ b, w.heap.size ≤ b → P b) (hA : AllR es) (hn : n ≤ 1099511627776) :
    Calls Try.prog 41 #[.agg #[.int .i64 ix, .int .i64 tm, .slice c.v.a c.v.len c.v.cap, .slice c.l.a c.l.len c.l.cap, .slice a n cap], .int .i64 i] w (RConf P w (confAtOf ix c.says es i)) := by
  obtain ⟨X, hX⟩ : ∃ X, X = (w.alloc (.cells #[.int .i64 ix, .int .i64 tm, .slice c.v.a c.v.len c.v.cap, .slice c.l.a c.l.len c.l.cap, .slice a n cap] 53)).alloc (.cells #[.slice none 0 0, .slice none 0 0] 27) := ⟨_, rfl⟩
  have hXb : Below w.heap.size w X := hX ▸ below_alloc (below_alloc (Below.refl _ _) _) _
  have hXs : X.heap.size = w.heap.size + 2 := by rw [hX, World.size_alloc, World.size_alloc]
  have hX0 : X.heap[w.heap.size]? = some (.cells #[.int .i64 ix, .int .i64 tm, .slice c.v.a c.v.len c.v.cap, .slice c.l.a c.l.len c.l.cap, .slice a n cap] 53 (0, 0)) := by
    rw [hX]
    exact alloc_far (heap_alloc_new w _) (by rw [World.size_alloc]; omega)
  have hX1 : X.heap[w.heap.size + 1]? = some (.cells #[.slice none 0 0, .slice none 0 0] 27 (0, 0)) := hX ▸ alloc_new1 w _ _
  have hI0 : CaI P w X ix tm c a n cap c (X.alloc (.cells #[.slice c.v.a c.v.len c.v.cap, .slice c.l.a c.l.len c.l.cap] 27)).drew := by
    have hb : Below w.heap.size w (X.alloc (.cells #[.slice c.v.a c.v.len c.v.cap, .slice c.l.a c.l.len c.l.cap] 27)).drew := (below_alloc hXb _).drew
    exact ⟨alloc_far hX0 (lt_of_block hX0), alloc_far hX1 (lt_of_block hX1), heap_alloc_new X _, hc.below hb, ⟨fun b o e hn => ⟨hP.1 b o e hn, .inl (hc.low.1 b o e hn)⟩, fun b o e hn => ⟨hP.2 b o e hn, .inl (hc.low.2 b o e hn)⟩⟩, hb, by show X.heap.size < (X.alloc _).heap.size; rw [World.size_alloc]; omega⟩
  have hb0 : ∀ o, (X.alloc o).heap[w.heap.size]? = some (.cells #[.int .i64 ix, .int .i64 tm, .slice c.v.a c.v.len c.v.cap, .slice c.l.a c.l.len c.l.cap, .slice a n cap] 53 (0, 0)) := fun o => alloc_far hX0 (lt_of_block hX0)
  have hb1 : (X.alloc (.cells #[.slice none 0 0, .slice none 0 0] 27)).heap[X.heap.size]? = some (.cells #[.slice none 0 0, .slice none 0 0] 27 (0, 0)) := heap_alloc_new X _
  obtain ⟨⟨p0, p1, p2, p3, p4⟩, _⟩ := five_cells hX0
  have q := fun o => (five_cells (hb0 o)).1
  have q0 := fun o => (q o).1
  have q2 := fun o => (q o).2.2.1
  have q3 := fun o => (q o).2.2.2.1
  obtain ⟨s0, s1, s2, s3⟩ := two_cells hb1
  go_enter Try.func41, Try.ntmps41
  have HX := Lib.hid hX
  have HI0 := Lib.hid hI0
  have HX0 := Lib.hid hX0
  have HX1 := Lib.hid hX1
  have HXS := Lib.hid hXs
  have HXB := Lib.hid hXb
  have HR := Lib.hid h
  have HOK := Lib.hid hok
  have HC := Lib.hid hc
  have HP := Lib.hid hP
  have HNEW := Lib.hid hnew
  have HA := Lib.hid hA
  clear hX hI0 hX0 hX1 hXs hXb h hok hc hP hnew hA q hb0 hb1
  have e1 : w.heap.size ≠ X.heap.size := by have := HXS.out; omega
  have e2 : X.heap.size ≠ w.heap.size := by have := HXS.out; omega
  go_wp2_with fail
  rw [← HX.out]
  go_region
  go_wp2_with fail
  clear p0 p1 p2 p3 p4 q0 q2 q3 s0 s1 s2 s3 e1 e2
  go_loopw [7, 8] (fun v7 v8 wr => ∃ (k : Nat) (at1 : Int) (c1 : Cf), v8 = .int .i64 k ∧ v7 = .int .i64 at1 ∧ k ≤ n ∧ Hid (CaI P w X ix tm c a n cap c1 wr) ∧ Hid ((c1.says, at1) = confAtOf ix c.says (es.take k) i)) (fun _ i _ => n - (intOf i).toNat)
  case atStart => exact ⟨0, ix, c, rfl, rfl, by omega, HI0.out, rfl⟩
  case round =>
    obtain ⟨k, at1, c1, rfl, rfl, hk, HI, HS⟩ := hrel
    obtain ⟨⟨b0, b1, b2, b3, b4⟩, _⟩ := five_cells HI.out.box
    obtain ⟨d0, d1, d2, d3⟩ := two_cells HI.out.cur
    obtain ⟨g0, g1, g2, g3⟩ := two_cells HI.out.res
    by_cases hlt : k < n
    · obtain ⟨e, hek⟩ : ∃ e, es[k]? = some e := ⟨_, List.getElem?_eq_getElem (by rw [HR.out.len]; exact hlt)⟩
      obtain ⟨b, off, rfl, e0, e1, e2, e3⟩ := en_at (HR.out.below HI.out.below).row HR.out.len k hlt e hek
      have hkn : (k : Int) < (n : Int) := by omega
      have hmem := List.mem_of_getElem? hek
      have hsn : confAtOf ix c.says (es.take (k + 1)) i = if gives i e = true then ((loadOf e.s.bs).getD ([], []), e.ix) else confAtOf ix c.says (es.take k) i := by
        rw [List.take_add_one, hek]
        exact conf_snoc ix c.says _ e i
      have hri := rightE_iff.1 (HA.out e hmem)
      have hoe := HOK.out e hmem
      have hl6 : e.s.len ≤ 2048 := by have := hoe.1.1; omega
      have HSN := Lib.hid hsn
      have HRI := Lib.hid hri
      have HOE := Lib.hid hoe
      clear hsn hri hoe hek hmem
      obtain ⟨Y, hY⟩ : ∃ Y, Y = wr.alloc (.cells #[.int .i64 e.ix, .int .i64 e.tm, .int .i64 e.kd, .slice e.s.a e.s.len e.s.cap] 32) := ⟨_, rfl⟩
      have hbY : Below wr.heap.size wr Y := hY ▸ below_alloc (Below.refl _ _) _
      have hYb : Y.heap[wr.heap.size]? = some (.cells #[.int .i64 e.ix, .int .i64 e.tm, .int .i64 e.kd, .slice e.s.a e.s.len e.s.cap] 32 (0, 0)) := hY ▸ heap_alloc_new wr _
      have HY := Lib.hid hY
      have HBY := Lib.hid hbY
      have HYB := Lib.hid hYb
      clear hY hbY hYb
      by_cases h1 : e.kd = 2
      · have k1 : (e.kd == 2) = true := by simp [h1]
        by_cases h2 : e.ix ≤ i
        · have hg : gives i e = true := by simp [gives, h1, h2]
          have hld := rload_any e.s.a e.s.len e.s.cap e.s.bs Y (HOE.out.below (below_then HI.out.below HBY.out)).1 HOE.out.2.1 HOE.out.2.2.1 (by omega)
          have HLD := Lib.hid hld
          have HG := Lib.hid hg
          have hsome : (loadOf e.s.bs).isSome = true := by
            have := HRI.out.1
            rcases this with h | h
            · exact absurd h1 h
            · exact h
          have HSM := Lib.hid hsome
          clear hld hg h1 hsome
          go_wp2_with fail
          rw [← HY.out]
          refine HLD.out.mono ?_
          rintro e' w3 ⟨c2, rfl, hsay, hok2, hp2, hb3⟩
          have hI3 := HI.out.later (below_then HBY.out hb3)
          have hE3 := (hb3.block _ (lt_of_block HYB.out)).trans HYB.out
          have hfa : ∀ o, (w3.alloc o).heap[X.heap.size]? = some (.cells #[.slice c1.v.a c1.v.len c1.v.cap, .slice c1.l.a c1.l.len c1.l.cap] 27 (0, 0)) ∧ (w3.alloc o).heap[wr.heap.size]? = some (.cells #[.int .i64 e.ix, .int .i64 e.tm, .int .i64 e.kd, .slice e.s.a e.s.len e.s.cap] 32 (0, 0)) := fun o => ⟨alloc_far hI3.cur (lt_of_block hI3.cur), alloc_far hE3 (lt_of_block hE3)⟩
          have t0 := fun o => (two_cells (hfa o).1).1
          have t1 := fun o => (two_cells (hfa o).1).2.1
          have t2 := fun o => (two_cells (hfa o).1).2.2.1
          have t3 := fun o => (two_cells (hfa o).1).2.2.2
          have r0 := fun o => (four_cells (hfa o).2).1.1
          have n1 : wr.heap.size ≠ X.heap.size := by have := HI.out.size; omega
          have n2 : X.heap.size ≠ wr.heap.size := by have := HI.out.size; omega
          have n3 : w3.heap.size ≠ X.heap.size := by have := hI3.size; omega
          have n4 : X.heap.size ≠ w3.heap.size := by have := hI3.size; omega
          have hyz := HBY.out.size
          have hI4 := (hI3.later (below_alloc (Below.refl _ _) (.cells #[.slice c2.v.a c2.v.len c2.v.cap, .slice c2.l.a c2.l.len c2.l.cap] 27))).put HXS.out (hok2.below (below_alloc (Below.refl _ _) _)) (hp2.mono fun b hb => ⟨HNEW.out b (by have := HI.out.below.size; omega), .inr (by have := HI.out.size; omega)⟩)
          have HI4 := Lib.hid hI4
          have HSAY := Lib.hid (hsay HSM.out)
          obtain ⟨bo, hbo⟩ : ∃ bo, bo = (loadOf e.s.bs).isSome := ⟨_, rfl⟩
          rw [← hbo]
          clear hI3 hE3 hfa hI4 hsay hok2 hp2 hb3 hbo
          go_wp2_with fail
          go_roundw
          case rel =>
            refine ⟨k + 1, e.ix, c2, by go_num, rfl, by omega, HI4.out, ?_⟩
            show _ = _
            rw [HSN.out, if_pos HG.out, HSAY.out]
          case measure => simp [intOf]; omega
        · have hg : gives i e = false := by simp [gives, h2]
          have HG := Lib.hid hg
          have hI2 := HI.out.later HBY.out
          have HI2 := Lib.hid hI2
          clear hg h1 hI2
          go_wp2_with fail
          rw [← HY.out]
          go_roundw
          case rel =>
            refine ⟨k + 1, at1, c1, by go_num, rfl, by omega, HI2.out, ?_⟩
            show _ = _
            rw [HSN.out, HG.out]
            exact HS.out
          case measure => simp [intOf]; omega
      · have k1 : (e.kd == 2) = false := by simp [h1]
        have hg : gives i e = false := by simp [gives, h1]
        have HG := Lib.hid hg
        have hI2 := HI.out.later HBY.out
        have HI2 := Lib.hid hI2
        clear hg h1 hI2
        go_wp2_with fail
        rw [← HY.out]
        go_roundw
        case rel =>
          refine ⟨k + 1, at1, c1, by go_num, rfl, by omega, HI2.out, ?_⟩
          show _ = _
          rw [HSN.out, HG.out]
          exact HS.out
        case measure => simp [intOf]; omega
    · have hke : k = n := by omega
      subst hke
      go_wp2_with fail
      have ht : Touch [w.heap.size + 1] wr ((wr.setCell ⟨w.heap.size + 1, 0, none⟩ (.slice c1.v.a c1.v.len c1.v.cap)).setCell ⟨w.heap.size + 1, 1, none⟩ (.slice c1.l.a c1.l.len c1.l.cap)) := touch_set (touch_set (Touch.refl _ _) _ _ _ (by simp)) _ _ _ (by simp)
      have hfin := HS.out
      rw [List.take_of_length_le (by rw [HR.out.len]; exact Nat.le_refl _)] at hfin
      have hxs := HXS.out
      refine bodyPost_ret (results_cell_tmp Try.results41 rfl (load_conf (set_block (i := 1) (set_block (i := 0) HI.out.res _) _))) rfl ⟨c1, ?_, ?_, HI.out.ok.touch HI.out.at' ht (fun b hb hm => by simp at hm; omega), HI.out.at'.mono (fun b hb => hb.1), ht.below HI.out.below HI.out.below.size (fun k hk => by simp at hk; omega)⟩
      · rw [← hfin]
        rfl
      · rw [← hfin]
end Go.Proofs.Ytpaommkjafdghaa
