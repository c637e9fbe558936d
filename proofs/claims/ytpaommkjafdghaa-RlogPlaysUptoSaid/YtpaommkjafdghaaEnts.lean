/- Entries. -/
import Derived.Test.YtpaommkjafdghaaDrop
namespace Go.Proofs.Ytpaommkjafdghaa
open Go.RowKit

/-- entries in memory of the call's own -/
structure OwnE (w : World) (base : Nat) (ls : List En) (ao : Option Addr) (n cap : Nat) : Prop where
  len : ls.length = n
  row : w.ownsRow base 32 4 (.slice ao n cap) n (ls.flatMap En.cells)
  own : ∀ l ∈ ls, Own8 w base l.s.a l.s.len l.s.cap l.s.bs
theorem OwnE.nil (w : World) (base : Nat) : OwnE w base [] none 0 0 := ⟨rfl, World.ownsRow_nil w base _ 4, fun v h => by cases h⟩
theorem OwnE.keep {w w' : World} {base : Nat} {ls : List En} {ao : Option Addr} {n cap : Nat} (h : OwnE w base ls ao n cap) (hk : ∀ g, base ≤ g → g < w.heap.size → w'.heap[g]? = w.heap[g]?) : OwnE w' base ls ao n cap :=
  ⟨h.len, own_keep h.row fun g hg hl => hk g (h.row.lt g hg).1 hl, fun v hv => own_keep (h.own v hv) fun g hg hl => hk g ((h.own v hv).lt g hg).1 hl⟩
theorem OwnE.snoc {w w' : World} {base : Nat} {ls : List En} {ao ao' : Option Addr} {n cap cap' : Nat} {l : En} (h : OwnE w base ls ao n cap) (hv : Own8 w base l.s.a l.s.len l.s.cap l.s.bs)
    (hrow : w'.ownsRow base 32 4 (.slice ao' (n + 1) cap') (n + 1) (ls.flatMap En.cells ++ l.cells)) (hg : w.grownBy w' (Value.ownBlock (.slice ao n cap))) : OwnE w' base (ls ++ [l]) ao' (n + 1) cap' := by
  have k : ∀ u : En, Own8 w base u.s.a u.s.len u.s.cap u.s.bs → Own8 w' base u.s.a u.s.len u.s.cap u.s.bs := fun u hu => own_keep hu fun g hb hl => hg.block g hl fun e => own_apart hu h.row (by decide) g hb e.symm
  refine ⟨by rw [List.length_append, h.len]; rfl, ?_, fun u hu => ?_⟩
  · rw [List.flatMap_append]
    simpa using hrow
  · rcases List.mem_append.1 hu with hu | hu
    · exact k u (h.own u hu)
    · rw [List.mem_singleton] at hu
      subst hu
      exact k u hv

/-- the entries from an index on, at most so many -/
def entriesOf (ix : Int) (es : List En) (fr most : Int) : List En :=
  let d := (max fr (ix + 1)) - ix - 1
  if es = [] ∨ ix + es.length < max fr (ix + 1) ∨ most ≤ 0 then [] else (es.drop d.toNat).take most.toNat
/-- It returns entries that say this, in memory of its own. -/
def RetEs (w : World) (us : List En) (e : Ending) (w' : World) : Prop :=
  ∃ ls ao cap, e = .returned (.slice ao us.length cap) ∧ ls.map En.says = us.map En.says ∧ OwnE w' w.heap.size ls ao us.length cap ∧ Below w.heap.size w w'

set_option maxRecDepth 100000 in
set_option maxHeartbeats 6400000 in
theorem entries_any (base N : Nat) (ix tm : Int) (c : Cf) (es : List En) (ae : Option Addr) (n cap : Nat) (fr most : Int) (w : World) (h : LogAt w base N ix tm c es ae n cap) (hs : Sound ix tm es) (hn : n ≤ 2000000000000) (hbig : ∀ e ∈ es, e.s.len ≤ 140737488355328) :
    Calls Try.prog 18 #[.pointer (some ⟨N, 0, none⟩), .int .i64 fr, .int .i64 most] w (RetEs w (entriesOf ix es fr most)) := by
  have hl := last_any base N ix tm c es ae n cap w h hn
  have hli := hs.last
  rw [h.len] at hli
  have hrx := hs.rx
  obtain ⟨⟨li, lt⟩, hlo⟩ : ∃ x, x = lastOf ix tm es := ⟨_, rfl⟩
  rw [← hlo] at hl hli
  simp only at hl hli
  have hlen := h.len
  have hw1 : IntKind.i64.wrap (ix + 1) = ix + 1 := by rw [IntKind.wrap_i64] <;> omega
  have hce : ∀ w', Below w.heap.size w w' → (w'.cell? ⟨N, 0, none⟩ = some (.int .i64 ix) ∧ w'.cell? ⟨N, 4, none⟩ = some (.slice ae n cap)) := fun w' hb => by
    obtain ⟨⟨c0, c1, c2, c3, c4⟩, _⟩ := five_cells (h.below hb).cell
    exact ⟨c0, c4⟩
  obtain ⟨f, hf⟩ : ∃ f, f = max fr (ix + 1) := ⟨_, rfl⟩
  have hfm : (fr < ix + 1 ∧ f = ix + 1) ∨ (¬ fr < ix + 1 ∧ f = fr) := by omega
  unfold entriesOf
  rw [← hf, hlen]
  have H := Lib.hid h
  have HL := Lib.hid hl
  have HCE := Lib.hid hce
  have HB := Lib.hid hbig
  have HLI := Lib.hid hli
  have hcap := own_cap h.row
  clear h hl hce hlo hs hbig hf
  by_cases hempty : es = []
  · subst hempty
    have hn0 : n = 0 := hlen.symm
    subst hn0
    rw [if_pos (.inl rfl)]
    clear hli
    rcases hfm with ⟨hm1, rfl⟩ | ⟨hm1, rfl⟩
    all_goals
      go_enter Try.func18, Try.ntmps18
      go_wp2_with fail
      refine HL.out.mono ?_
      rintro e w1 ⟨rfl, hb1⟩
      obtain ⟨c0, c4⟩ := HCE.out _ hb1
      go_wp2_with fail
      go_ret
      exact ⟨[], none, 0, rfl, rfl, OwnE.nil _ _, hb1⟩
  have hn0 : 0 < n := by rw [← hlen]; exact List.length_pos_iff.2 hempty
  have hne : ((n : Int) == 0) = false := by simp; omega
  by_cases hlast : ix + (n : Int) < f
  · rw [if_pos (.inr (.inl hlast))]
    have hll : li < f := by omega
    clear hli hempty
    rcases hfm with ⟨hm1, rfl⟩ | ⟨hm1, rfl⟩
    · omega
    all_goals
      go_enter Try.func18, Try.ntmps18
      go_wp2_with fail
      refine HL.out.mono ?_
      rintro e w1 ⟨rfl, hb1⟩
      obtain ⟨c0, c4⟩ := HCE.out _ hb1
      go_wp2_with fail
      go_ret
      exact ⟨[], none, 0, rfl, rfl, OwnE.nil _ _, hb1⟩
  have hll : ¬ li < f := by omega
  by_cases hmost : most ≤ 0
  · rw [if_pos (.inr (.inr hmost))]
    clear hli hempty
    rcases hfm with ⟨hm1, rfl⟩ | ⟨hm1, rfl⟩
    all_goals
      go_enter Try.func18, Try.ntmps18
      go_wp2_with fail
      refine HL.out.mono ?_
      rintro e w1 ⟨rfl, hb1⟩
      obtain ⟨c0, c4⟩ := HCE.out _ hb1
      go_wp2_with fail
      go_ret
      exact ⟨[], none, 0, rfl, rfl, OwnE.nil _ _, hb1⟩
  rw [if_neg (by intro hh; rcases hh with hh | hh | hh <;> first | exact hempty hh | omega)]
  obtain ⟨d, hd⟩ : ∃ d : Nat, f - ix - 1 = (d : Int) := ⟨(f - ix - 1).toNat, by omega⟩
  have hdt : (f - ix - 1).toNat = d := by omega
  have hdn : d < n := by omega
  rw [hdt]
  obtain ⟨q, hq⟩ : ∃ q : Nat, most = (q : Int) := ⟨most.toNat, by omega⟩
  have hqt : most.toNat = q := by omega
  rw [hqt]
  obtain ⟨m, hm⟩ : ∃ m : Nat, m = min (n - d) q := ⟨_, rfl⟩
  have hmm : (q < n - d ∧ m = q) ∨ (¬ q < n - d ∧ m = n - d) := by omega
  have hul : ((es.drop d).take q).length = m := by rw [List.length_take, List.length_drop, hlen, hm, Nat.min_comm]
  obtain ⟨us, hus⟩ : ∃ us, us = (es.drop d).take q := ⟨_, rfl⟩
  rw [← hus] at hul ⊢
  obtain ⟨b, hb⟩ : ∃ b, ae = some ⟨b, 0, none⟩ := by
    rcases H.out.row.2 with ⟨h1, h2⟩ | ⟨g, cp, cur, h1, _⟩
    · injection h1 with _ h3 _
      omega
    · injection h1 with h1 _ _
      exact ⟨g, h1⟩
  subst hb
  have hcd : ¬ cap = d := by omega
  have hd0 : (0 : Int) ≤ (d : Int) := by omega
  have hdi : (d : Int) ≤ (n : Int) := by omega
  have hdc : (d : Int) ≤ (cap : Int) := by omega
  have hnc : (n : Int) ≤ (cap : Int) := by omega
  have hq0 : (0 : Int) < (q : Int) := by omega
  have hw2 : IntKind.i64.wrap (f - ix) = (d : Int) + 1 := by rw [IntKind.wrap_i64] <;> omega
  have hw3 : IntKind.i64.wrap ((d : Int) + 1 - 1) = (d : Int) := by rw [IntKind.wrap_i64] <;> omega
  have hw4 : IntKind.i64.wrap (d : Int) = (d : Int) := by rw [IntKind.wrap_i64] <;> omega
  have HUS := Lib.hid hus
  have HUL := Lib.hid hul
  have HD := Lib.hid hd
  have HM := Lib.hid hmm
  subst hq
  clear hus hul hd hdt hqt hm hli hempty hmm
  rcases hfm with ⟨hm1, rfl⟩ | ⟨hm1, rfl⟩ <;> rcases HM.out with ⟨hq1, rfl⟩ | ⟨hq1, rfl⟩
  · have hqi : (m : Int) < ((n - d : Nat) : Int) := by omega
    have hqq : (m : Int) ≤ ((n - d : Nat) : Int) := by omega
    have hqc : (m : Int) ≤ ((cap - d : Nat) : Int) := by omega
    go_enter Try.func18, Try.ntmps18
    go_wp2_with fail
    refine HL.out.mono ?_
    rintro e w1 ⟨rfl, hb1⟩
    obtain ⟨c0, c4⟩ := HCE.out _ hb1
    have HB1 := Lib.hid hb1
    clear hb1
    go_wp2_with fail
    go_quiet (fail)
    go_wp2_with fail
    rw [show decide (m = 0) = false from decide_eq_false (by omega), Bool.or_false]
    go_loopw [9, 59] (fun v j wr => ∃ (k : Nat) (vs : List En) (ak : Option Addr) (ck : Nat), k ≤ m ∧ j = .int .i64 k ∧ v = .slice ak k ck ∧ vs.map En.says = (us.take k).map En.says ∧ OwnE wr w.heap.size vs ak k ck ∧ Below w.heap.size w wr) (fun _ j _ => m - (intOf j).toNat)
    case atStart => exact ⟨0, [], none, 0, by omega, rfl, rfl, by simp, OwnE.nil _ _, below_drewN HB1.out _⟩
    case round =>
      obtain ⟨k, vs, ak, ck, hk, rfl, rfl, hsay, hO, hbw⟩ := hrel
      have hsz := hbw.size
      by_cases hlt : k < m
      · have huk : (es.drop d)[k]? = us[k]? := by rw [HUS.out, List.getElem?_take, if_pos (by omega)]
        obtain ⟨u, hu⟩ : ∃ u, us[k]? = some u := ⟨_, List.getElem?_eq_getElem (by rw [HUL.out]; exact hlt)⟩
        rw [hu] at huk
        have hmem : u ∈ es := List.mem_of_mem_drop (List.mem_of_getElem? huk)
        have hrow := ((RowN.of_own (H.out.below hbw).row).dropN (show d ≤ n by omega))
        rw [Nat.zero_add] at hrow
        obtain ⟨b', off', he, e0, e1, e2, e3⟩ := en_at hrow (by rw [List.length_drop, hlen]) k (by omega) u huk
        injection he with he
        injection he with he1 he2 _
        subst he1 he2
        have hown := (H.out.below hbw).own u hmem
        have hbx : Below wr.heap.size wr (wr.alloc (.cells #[.int .i64 u.ix, .int .i64 u.tm, .int .i64 u.kd, .slice u.s.a u.s.len u.s.cap] 32)) := below_alloc (Below.refl _ _) _
        have hcl := clone_any u.s.a u.s.len u.s.cap u.s.bs _ (hown.row.below hbx) (fun e => by have := hown.nocap e; have := hown.cap.1; omega) (HB.out u hmem)
        have hbx2 : ∀ w2, Below (wr.alloc (.cells #[.int .i64 u.ix, .int .i64 u.tm, .int .i64 u.kd, .slice u.s.a u.s.len u.s.cap] 32)).heap.size (wr.alloc (.cells #[.int .i64 u.ix, .int .i64 u.tm, .int .i64 u.kd, .slice u.s.a u.s.len u.s.cap] 32)) w2 → w2.heap[wr.heap.size]? = some (.cells #[.int .i64 u.ix, .int .i64 u.tm, .int .i64 u.kd, .slice u.s.a u.s.len u.s.cap] 32 (0, 0)) := fun w2 hb => (hb.block _ (by rw [World.size_alloc]; omega)).trans (heap_alloc_new wr _)
        have hkl : (k : Int) < ((m : Nat) : Int) := by omega
        have HCL := Lib.hid hcl
        have HBX := Lib.hid hbx
        have HBX2 := Lib.hid hbx2
        have HO := Lib.hid hO
        have HBW := Lib.hid hbw
        have HU := Lib.hid hu
        have HSY := Lib.hid hsay
        clear huk hmem hrow hown hbx hcl hbx2 hO hbw hu hsay
        go_wp2_with fail
        refine HCL.out.mono ?_
        rintro e w2 ⟨aq, cq, rfl, hown2, hb2⟩
        obtain ⟨⟨b0, b1, b2, b3⟩, y0, y1, y2, y3⟩ := four_cells (HBX2.out _ hb2)
        obtain ⟨Y, hY⟩ : ∃ Y, Y = w2.setCell ⟨wr.heap.size, 3, none⟩ (.slice aq u.s.len cq) := ⟨_, rfl⟩
        have hbY : Below wr.heap.size wr Y := hY ▸ below_set (below_then HBX.out hb2) _ (Nat.le_refl _)
        have hYb : Y.heap[wr.heap.size]? = some (.cells #[.int .i64 u.ix, .int .i64 u.tm, .int .i64 u.kd, .slice aq u.s.len cq] 32 (0, 0)) := hY ▸ set_block (i := 3) (HBX2.out _ hb2) _
        have hoY : Own8 Y w.heap.size aq u.s.len cq u.s.bs := by
          rw [hY]
          exact own_more (own_keep hown2 fun g hg hl => Below.heap_setCell w2 _ _ g (by have := (hown2.lt g hg).1; rw [World.size_alloc] at this; simp; omega)) (by rw [World.size_alloc]; omega)
        have hOY := HO.out.keep (w' := Y) fun g _ hl => hbY.block g hl
        have HBY := Lib.hid hbY
        have HOY := Lib.hid hoY
        have HOO := Lib.hid hOY
        have hzY := hbY.size
        clear hown2 hb2 hbY hoY hOY
        subst hY
        go_wp2_with (at_builtin; refine wpList_appendE rfl (.tmp 67) (.tmp 69) rfl w.heap.size ak k ck (vs.flatMap En.cells) rfl (own_keep HOO.out.row fun g _ hl => alloc_far rfl hl) (some ⟨w2.heap.size, 0, none⟩) 1 1 (En.cells ⟨u.ix, u.tm, u.kd, ⟨aq, u.s.len, cq, u.s.bs⟩⟩) rfl (RowN.newH _ _ _ 4 1 _ _ rfl rfl (by simp [World.setCell])) (fun h => by cases h) (cells_one4 _) (by omega) (by rw [World.size_alloc]; omega) (k + 1) rfl ?_; intro ao3 cap3 w3 hown3 hg3 hat3)
        go_roundw
        case rel =>
          refine ⟨k + 1, vs ++ [⟨u.ix, u.tm, u.kd, ⟨aq, u.s.len, cq, u.s.bs⟩⟩], ao3, cap3, by omega, by go_num, rfl, ?_, OwnE.snoc (l := ⟨u.ix, u.tm, u.kd, ⟨aq, u.s.len, cq, u.s.bs⟩⟩) (HOO.out.keep fun g _ hl => alloc_far rfl hl) (own_keep HOY.out fun g _ hl => alloc_far rfl hl) hown3 hg3, (below_alloc (below_then HBW.out HBY.out) _).grown hg3 (by rw [World.size_alloc]; omega) (fun g hg => (HO.out.row.lt g hg).1)⟩
          rw [List.map_append, HSY.out, List.take_add_one, HU.out, List.map_append]
          rfl
        case measure => simp [intOf]; omega
      · have hke : k = m := by omega
        subst hke
        go_wp2_with fail
        go_ret
        exact ⟨vs, ak, ck, by rw [HUL.out]; rfl, by rw [hsay, List.take_of_length_le (by rw [HUL.out]; exact Nat.le_refl _)], by rw [HUL.out]; exact hO, hbw⟩
  · have hqi : ¬ (q : Int) < ((n - d : Nat) : Int) := by omega
    have hqq : ((n - d : Nat) : Int) ≤ (q : Int) := by omega
    have hqc : ((n - d : Nat) : Int) ≤ ((cap - d : Nat) : Int) := by omega
    go_enter Try.func18, Try.ntmps18
    go_wp2_with fail
    refine HL.out.mono ?_
    rintro e w1 ⟨rfl, hb1⟩
    obtain ⟨c0, c4⟩ := HCE.out _ hb1
    have HB1 := Lib.hid hb1
    clear hb1
    go_wp2_with fail
    go_quiet (fail)
    go_wp2_with fail
    rw [show decide (q = 0) = false from decide_eq_false (by omega), Bool.or_false]
    go_loopw [9, 59] (fun v j wr => ∃ (k : Nat) (vs : List En) (ak : Option Addr) (ck : Nat), k ≤ (n - d) ∧ j = .int .i64 k ∧ v = .slice ak k ck ∧ vs.map En.says = (us.take k).map En.says ∧ OwnE wr w.heap.size vs ak k ck ∧ Below w.heap.size w wr) (fun _ j _ => (n - d) - (intOf j).toNat)
    case atStart => exact ⟨0, [], none, 0, by omega, rfl, rfl, by simp, OwnE.nil _ _, below_drewN HB1.out _⟩
    case round =>
      obtain ⟨k, vs, ak, ck, hk, rfl, rfl, hsay, hO, hbw⟩ := hrel
      have hsz := hbw.size
      by_cases hlt : k < (n - d)
      · have huk : (es.drop d)[k]? = us[k]? := by rw [HUS.out, List.getElem?_take, if_pos (by omega)]
        obtain ⟨u, hu⟩ : ∃ u, us[k]? = some u := ⟨_, List.getElem?_eq_getElem (by rw [HUL.out]; exact hlt)⟩
        rw [hu] at huk
        have hmem : u ∈ es := List.mem_of_mem_drop (List.mem_of_getElem? huk)
        have hrow := ((RowN.of_own (H.out.below hbw).row).dropN (show d ≤ n by omega))
        rw [Nat.zero_add] at hrow
        obtain ⟨b', off', he, e0, e1, e2, e3⟩ := en_at hrow (by rw [List.length_drop, hlen]) k (by omega) u huk
        injection he with he
        injection he with he1 he2 _
        subst he1 he2
        have hown := (H.out.below hbw).own u hmem
        have hbx : Below wr.heap.size wr (wr.alloc (.cells #[.int .i64 u.ix, .int .i64 u.tm, .int .i64 u.kd, .slice u.s.a u.s.len u.s.cap] 32)) := below_alloc (Below.refl _ _) _
        have hcl := clone_any u.s.a u.s.len u.s.cap u.s.bs _ (hown.row.below hbx) (fun e => by have := hown.nocap e; have := hown.cap.1; omega) (HB.out u hmem)
        have hbx2 : ∀ w2, Below (wr.alloc (.cells #[.int .i64 u.ix, .int .i64 u.tm, .int .i64 u.kd, .slice u.s.a u.s.len u.s.cap] 32)).heap.size (wr.alloc (.cells #[.int .i64 u.ix, .int .i64 u.tm, .int .i64 u.kd, .slice u.s.a u.s.len u.s.cap] 32)) w2 → w2.heap[wr.heap.size]? = some (.cells #[.int .i64 u.ix, .int .i64 u.tm, .int .i64 u.kd, .slice u.s.a u.s.len u.s.cap] 32 (0, 0)) := fun w2 hb => (hb.block _ (by rw [World.size_alloc]; omega)).trans (heap_alloc_new wr _)
        have hkl : (k : Int) < (((n - d) : Nat) : Int) := by omega
        have HCL := Lib.hid hcl
        have HBX := Lib.hid hbx
        have HBX2 := Lib.hid hbx2
        have HO := Lib.hid hO
        have HBW := Lib.hid hbw
        have HU := Lib.hid hu
        have HSY := Lib.hid hsay
        clear huk hmem hrow hown hbx hcl hbx2 hO hbw hu hsay
        go_wp2_with fail
        refine HCL.out.mono ?_
        rintro e w2 ⟨aq, cq, rfl, hown2, hb2⟩
        obtain ⟨⟨b0, b1, b2, b3⟩, y0, y1, y2, y3⟩ := four_cells (HBX2.out _ hb2)
        obtain ⟨Y, hY⟩ : ∃ Y, Y = w2.setCell ⟨wr.heap.size, 3, none⟩ (.slice aq u.s.len cq) := ⟨_, rfl⟩
        have hbY : Below wr.heap.size wr Y := hY ▸ below_set (below_then HBX.out hb2) _ (Nat.le_refl _)
        have hYb : Y.heap[wr.heap.size]? = some (.cells #[.int .i64 u.ix, .int .i64 u.tm, .int .i64 u.kd, .slice aq u.s.len cq] 32 (0, 0)) := hY ▸ set_block (i := 3) (HBX2.out _ hb2) _
        have hoY : Own8 Y w.heap.size aq u.s.len cq u.s.bs := by
          rw [hY]
          exact own_more (own_keep hown2 fun g hg hl => Below.heap_setCell w2 _ _ g (by have := (hown2.lt g hg).1; rw [World.size_alloc] at this; simp; omega)) (by rw [World.size_alloc]; omega)
        have hOY := HO.out.keep (w' := Y) fun g _ hl => hbY.block g hl
        have HBY := Lib.hid hbY
        have HOY := Lib.hid hoY
        have HOO := Lib.hid hOY
        have hzY := hbY.size
        clear hown2 hb2 hbY hoY hOY
        subst hY
        go_wp2_with (at_builtin; refine wpList_appendE rfl (.tmp 67) (.tmp 69) rfl w.heap.size ak k ck (vs.flatMap En.cells) rfl (own_keep HOO.out.row fun g _ hl => alloc_far rfl hl) (some ⟨w2.heap.size, 0, none⟩) 1 1 (En.cells ⟨u.ix, u.tm, u.kd, ⟨aq, u.s.len, cq, u.s.bs⟩⟩) rfl (RowN.newH _ _ _ 4 1 _ _ rfl rfl (by simp [World.setCell])) (fun h => by cases h) (cells_one4 _) (by omega) (by rw [World.size_alloc]; omega) (k + 1) rfl ?_; intro ao3 cap3 w3 hown3 hg3 hat3)
        go_roundw
        case rel =>
          refine ⟨k + 1, vs ++ [⟨u.ix, u.tm, u.kd, ⟨aq, u.s.len, cq, u.s.bs⟩⟩], ao3, cap3, by omega, by go_num, rfl, ?_, OwnE.snoc (l := ⟨u.ix, u.tm, u.kd, ⟨aq, u.s.len, cq, u.s.bs⟩⟩) (HOO.out.keep fun g _ hl => alloc_far rfl hl) (own_keep HOY.out fun g _ hl => alloc_far rfl hl) hown3 hg3, (below_alloc (below_then HBW.out HBY.out) _).grown hg3 (by rw [World.size_alloc]; omega) (fun g hg => (HO.out.row.lt g hg).1)⟩
          rw [List.map_append, HSY.out, List.take_add_one, HU.out, List.map_append]
          rfl
        case measure => simp [intOf]; omega
      · have hke : k = n - d := by omega
        subst hke
        go_wp2_with fail
        go_ret
        exact ⟨vs, ak, ck, by rw [HUL.out]; rfl, by rw [hsay, List.take_of_length_le (by rw [HUL.out]; exact Nat.le_refl _)], by rw [HUL.out]; exact hO, hbw⟩
  · have hqi : (m : Int) < ((n - d : Nat) : Int) := by omega
    have hqq : (m : Int) ≤ ((n - d : Nat) : Int) := by omega
    have hqc : (m : Int) ≤ ((cap - d : Nat) : Int) := by omega
    go_enter Try.func18, Try.ntmps18
    go_wp2_with fail
    refine HL.out.mono ?_
    rintro e w1 ⟨rfl, hb1⟩
    obtain ⟨c0, c4⟩ := HCE.out _ hb1
    have HB1 := Lib.hid hb1
    clear hb1
    go_wp2_with fail
    go_quiet (fail)
    go_wp2_with fail
    rw [show decide (m = 0) = false from decide_eq_false (by omega), Bool.or_false]
    go_loopw [9, 59] (fun v j wr => ∃ (k : Nat) (vs : List En) (ak : Option Addr) (ck : Nat), k ≤ m ∧ j = .int .i64 k ∧ v = .slice ak k ck ∧ vs.map En.says = (us.take k).map En.says ∧ OwnE wr w.heap.size vs ak k ck ∧ Below w.heap.size w wr) (fun _ j _ => m - (intOf j).toNat)
    case atStart => exact ⟨0, [], none, 0, by omega, rfl, rfl, by simp, OwnE.nil _ _, below_drewN HB1.out _⟩
    case round =>
      obtain ⟨k, vs, ak, ck, hk, rfl, rfl, hsay, hO, hbw⟩ := hrel
      have hsz := hbw.size
      by_cases hlt : k < m
      · have huk : (es.drop d)[k]? = us[k]? := by rw [HUS.out, List.getElem?_take, if_pos (by omega)]
        obtain ⟨u, hu⟩ : ∃ u, us[k]? = some u := ⟨_, List.getElem?_eq_getElem (by rw [HUL.out]; exact hlt)⟩
        rw [hu] at huk
        have hmem : u ∈ es := List.mem_of_mem_drop (List.mem_of_getElem? huk)
        have hrow := ((RowN.of_own (H.out.below hbw).row).dropN (show d ≤ n by omega))
        rw [Nat.zero_add] at hrow
        obtain ⟨b', off', he, e0, e1, e2, e3⟩ := en_at hrow (by rw [List.length_drop, hlen]) k (by omega) u huk
        injection he with he
        injection he with he1 he2 _
        subst he1 he2
        have hown := (H.out.below hbw).own u hmem
        have hbx : Below wr.heap.size wr (wr.alloc (.cells #[.int .i64 u.ix, .int .i64 u.tm, .int .i64 u.kd, .slice u.s.a u.s.len u.s.cap] 32)) := below_alloc (Below.refl _ _) _
        have hcl := clone_any u.s.a u.s.len u.s.cap u.s.bs _ (hown.row.below hbx) (fun e => by have := hown.nocap e; have := hown.cap.1; omega) (HB.out u hmem)
        have hbx2 : ∀ w2, Below (wr.alloc (.cells #[.int .i64 u.ix, .int .i64 u.tm, .int .i64 u.kd, .slice u.s.a u.s.len u.s.cap] 32)).heap.size (wr.alloc (.cells #[.int .i64 u.ix, .int .i64 u.tm, .int .i64 u.kd, .slice u.s.a u.s.len u.s.cap] 32)) w2 → w2.heap[wr.heap.size]? = some (.cells #[.int .i64 u.ix, .int .i64 u.tm, .int .i64 u.kd, .slice u.s.a u.s.len u.s.cap] 32 (0, 0)) := fun w2 hb => (hb.block _ (by rw [World.size_alloc]; omega)).trans (heap_alloc_new wr _)
        have hkl : (k : Int) < ((m : Nat) : Int) := by omega
        have HCL := Lib.hid hcl
        have HBX := Lib.hid hbx
        have HBX2 := Lib.hid hbx2
        have HO := Lib.hid hO
        have HBW := Lib.hid hbw
        have HU := Lib.hid hu
        have HSY := Lib.hid hsay
        clear huk hmem hrow hown hbx hcl hbx2 hO hbw hu hsay
        go_wp2_with fail
        refine HCL.out.mono ?_
        rintro e w2 ⟨aq, cq, rfl, hown2, hb2⟩
        obtain ⟨⟨b0, b1, b2, b3⟩, y0, y1, y2, y3⟩ := four_cells (HBX2.out _ hb2)
        obtain ⟨Y, hY⟩ : ∃ Y, Y = w2.setCell ⟨wr.heap.size, 3, none⟩ (.slice aq u.s.len cq) := ⟨_, rfl⟩
        have hbY : Below wr.heap.size wr Y := hY ▸ below_set (below_then HBX.out hb2) _ (Nat.le_refl _)
        have hYb : Y.heap[wr.heap.size]? = some (.cells #[.int .i64 u.ix, .int .i64 u.tm, .int .i64 u.kd, .slice aq u.s.len cq] 32 (0, 0)) := hY ▸ set_block (i := 3) (HBX2.out _ hb2) _
        have hoY : Own8 Y w.heap.size aq u.s.len cq u.s.bs := by
          rw [hY]
          exact own_more (own_keep hown2 fun g hg hl => Below.heap_setCell w2 _ _ g (by have := (hown2.lt g hg).1; rw [World.size_alloc] at this; simp; omega)) (by rw [World.size_alloc]; omega)
        have hOY := HO.out.keep (w' := Y) fun g _ hl => hbY.block g hl
        have HBY := Lib.hid hbY
        have HOY := Lib.hid hoY
        have HOO := Lib.hid hOY
        have hzY := hbY.size
        clear hown2 hb2 hbY hoY hOY
        subst hY
        go_wp2_with (at_builtin; refine wpList_appendE rfl (.tmp 67) (.tmp 69) rfl w.heap.size ak k ck (vs.flatMap En.cells) rfl (own_keep HOO.out.row fun g _ hl => alloc_far rfl hl) (some ⟨w2.heap.size, 0, none⟩) 1 1 (En.cells ⟨u.ix, u.tm, u.kd, ⟨aq, u.s.len, cq, u.s.bs⟩⟩) rfl (RowN.newH _ _ _ 4 1 _ _ rfl rfl (by simp [World.setCell])) (fun h => by cases h) (cells_one4 _) (by omega) (by rw [World.size_alloc]; omega) (k + 1) rfl ?_; intro ao3 cap3 w3 hown3 hg3 hat3)
        go_roundw
        case rel =>
          refine ⟨k + 1, vs ++ [⟨u.ix, u.tm, u.kd, ⟨aq, u.s.len, cq, u.s.bs⟩⟩], ao3, cap3, by omega, by go_num, rfl, ?_, OwnE.snoc (l := ⟨u.ix, u.tm, u.kd, ⟨aq, u.s.len, cq, u.s.bs⟩⟩) (HOO.out.keep fun g _ hl => alloc_far rfl hl) (own_keep HOY.out fun g _ hl => alloc_far rfl hl) hown3 hg3, (below_alloc (below_then HBW.out HBY.out) _).grown hg3 (by rw [World.size_alloc]; omega) (fun g hg => (HO.out.row.lt g hg).1)⟩
          rw [List.map_append, HSY.out, List.take_add_one, HU.out, List.map_append]
          rfl
        case measure => simp [intOf]; omega
      · have hke : k = m := by omega
        subst hke
        go_wp2_with fail
        go_ret
        exact ⟨vs, ak, ck, by rw [HUL.out]; rfl, by rw [hsay, List.take_of_length_le (by rw [HUL.out]; exact Nat.le_refl _)], by rw [HUL.out]; exact hO, hbw⟩
  · have hqi : ¬ (q : Int) < ((n - d : Nat) : Int) := by omega
    have hqq : ((n - d : Nat) : Int) ≤ (q : Int) := by omega
    have hqc : ((n - d : Nat) : Int) ≤ ((cap - d : Nat) : Int) := by omega
    go_enter Try.func18, Try.ntmps18
    go_wp2_with fail
    refine HL.out.mono ?_
    rintro e w1 ⟨rfl, hb1⟩
    obtain ⟨c0, c4⟩ := HCE.out _ hb1
    have HB1 := Lib.hid hb1
    clear hb1
    go_wp2_with fail
    go_quiet (fail)
    go_wp2_with fail
    rw [show decide (q = 0) = false from decide_eq_false (by omega), Bool.or_false]
    go_loopw [9, 59] (fun v j wr => ∃ (k : Nat) (vs : List En) (ak : Option Addr) (ck : Nat), k ≤ (n - d) ∧ j = .int .i64 k ∧ v = .slice ak k ck ∧ vs.map En.says = (us.take k).map En.says ∧ OwnE wr w.heap.size vs ak k ck ∧ Below w.heap.size w wr) (fun _ j _ => (n - d) - (intOf j).toNat)
    case atStart => exact ⟨0, [], none, 0, by omega, rfl, rfl, by simp, OwnE.nil _ _, below_drewN HB1.out _⟩
    case round =>
      obtain ⟨k, vs, ak, ck, hk, rfl, rfl, hsay, hO, hbw⟩ := hrel
      have hsz := hbw.size
      by_cases hlt : k < (n - d)
      · have huk : (es.drop d)[k]? = us[k]? := by rw [HUS.out, List.getElem?_take, if_pos (by omega)]
        obtain ⟨u, hu⟩ : ∃ u, us[k]? = some u := ⟨_, List.getElem?_eq_getElem (by rw [HUL.out]; exact hlt)⟩
        rw [hu] at huk
        have hmem : u ∈ es := List.mem_of_mem_drop (List.mem_of_getElem? huk)
        have hrow := ((RowN.of_own (H.out.below hbw).row).dropN (show d ≤ n by omega))
        rw [Nat.zero_add] at hrow
        obtain ⟨b', off', he, e0, e1, e2, e3⟩ := en_at hrow (by rw [List.length_drop, hlen]) k (by omega) u huk
        injection he with he
        injection he with he1 he2 _
        subst he1 he2
        have hown := (H.out.below hbw).own u hmem
        have hbx : Below wr.heap.size wr (wr.alloc (.cells #[.int .i64 u.ix, .int .i64 u.tm, .int .i64 u.kd, .slice u.s.a u.s.len u.s.cap] 32)) := below_alloc (Below.refl _ _) _
        have hcl := clone_any u.s.a u.s.len u.s.cap u.s.bs _ (hown.row.below hbx) (fun e => by have := hown.nocap e; have := hown.cap.1; omega) (HB.out u hmem)
        have hbx2 : ∀ w2, Below (wr.alloc (.cells #[.int .i64 u.ix, .int .i64 u.tm, .int .i64 u.kd, .slice u.s.a u.s.len u.s.cap] 32)).heap.size (wr.alloc (.cells #[.int .i64 u.ix, .int .i64 u.tm, .int .i64 u.kd, .slice u.s.a u.s.len u.s.cap] 32)) w2 → w2.heap[wr.heap.size]? = some (.cells #[.int .i64 u.ix, .int .i64 u.tm, .int .i64 u.kd, .slice u.s.a u.s.len u.s.cap] 32 (0, 0)) := fun w2 hb => (hb.block _ (by rw [World.size_alloc]; omega)).trans (heap_alloc_new wr _)
        have hkl : (k : Int) < (((n - d) : Nat) : Int) := by omega
        have HCL := Lib.hid hcl
        have HBX := Lib.hid hbx
        have HBX2 := Lib.hid hbx2
        have HO := Lib.hid hO
        have HBW := Lib.hid hbw
        have HU := Lib.hid hu
        have HSY := Lib.hid hsay
        clear huk hmem hrow hown hbx hcl hbx2 hO hbw hu hsay
        go_wp2_with fail
        refine HCL.out.mono ?_
        rintro e w2 ⟨aq, cq, rfl, hown2, hb2⟩
        obtain ⟨⟨b0, b1, b2, b3⟩, y0, y1, y2, y3⟩ := four_cells (HBX2.out _ hb2)
        obtain ⟨Y, hY⟩ : ∃ Y, Y = w2.setCell ⟨wr.heap.size, 3, none⟩ (.slice aq u.s.len cq) := ⟨_, rfl⟩
        have hbY : Below wr.heap.size wr Y := hY ▸ below_set (below_then HBX.out hb2) _ (Nat.le_refl _)
        have hYb : Y.heap[wr.heap.size]? = some (.cells #[.int .i64 u.ix, .int .i64 u.tm, .int .i64 u.kd, .slice aq u.s.len cq] 32 (0, 0)) := hY ▸ set_block (i := 3) (HBX2.out _ hb2) _
        have hoY : Own8 Y w.heap.size aq u.s.len cq u.s.bs := by
          rw [hY]
          exact own_more (own_keep hown2 fun g hg hl => Below.heap_setCell w2 _ _ g (by have := (hown2.lt g hg).1; rw [World.size_alloc] at this; simp; omega)) (by rw [World.size_alloc]; omega)
        have hOY := HO.out.keep (w' := Y) fun g _ hl => hbY.block g hl
        have HBY := Lib.hid hbY
        have HOY := Lib.hid hoY
        have HOO := Lib.hid hOY
        have hzY := hbY.size
        clear hown2 hb2 hbY hoY hOY
        subst hY
        go_wp2_with (at_builtin; refine wpList_appendE rfl (.tmp 67) (.tmp 69) rfl w.heap.size ak k ck (vs.flatMap En.cells) rfl (own_keep HOO.out.row fun g _ hl => alloc_far rfl hl) (some ⟨w2.heap.size, 0, none⟩) 1 1 (En.cells ⟨u.ix, u.tm, u.kd, ⟨aq, u.s.len, cq, u.s.bs⟩⟩) rfl (RowN.newH _ _ _ 4 1 _ _ rfl rfl (by simp [World.setCell])) (fun h => by cases h) (cells_one4 _) (by omega) (by rw [World.size_alloc]; omega) (k + 1) rfl ?_; intro ao3 cap3 w3 hown3 hg3 hat3)
        go_roundw
        case rel =>
          refine ⟨k + 1, vs ++ [⟨u.ix, u.tm, u.kd, ⟨aq, u.s.len, cq, u.s.bs⟩⟩], ao3, cap3, by omega, by go_num, rfl, ?_, OwnE.snoc (l := ⟨u.ix, u.tm, u.kd, ⟨aq, u.s.len, cq, u.s.bs⟩⟩) (HOO.out.keep fun g _ hl => alloc_far rfl hl) (own_keep HOY.out fun g _ hl => alloc_far rfl hl) hown3 hg3, (below_alloc (below_then HBW.out HBY.out) _).grown hg3 (by rw [World.size_alloc]; omega) (fun g hg => (HO.out.row.lt g hg).1)⟩
          rw [List.map_append, HSY.out, List.take_add_one, HU.out, List.map_append]
          rfl
        case measure => simp [intOf]; omega
      · have hke : k = n - d := by omega
        subst hke
        go_wp2_with fail
        go_ret
        exact ⟨vs, ak, ck, by rw [HUL.out]; rfl, by rw [hsay, List.take_of_length_le (by rw [HUL.out]; exact Nat.le_refl _)], by rw [HUL.out]; exact hO, hbw⟩
end Go.Proofs.Ytpaommkjafdghaa
