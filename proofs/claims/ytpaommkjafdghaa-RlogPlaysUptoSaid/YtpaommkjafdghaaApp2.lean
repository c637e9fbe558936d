/- Append. -/
import Derived.Test.YtpaommkjafdghaaApp1
namespace Go.Proofs.Ytpaommkjafdghaa
open Go.RowKit

/-- entries whose bytes lie in blocks from here on -/
def NewE (B : Nat) (vs : List En) : Prop := ∀ v ∈ vs, ∀ g, Value.ownBlock (.slice v.s.a v.s.len v.s.cap) = some g → B ≤ g
/-- what Append comes to -/
def ApPost (w : World) (base N : Nat) (ix tm : Int) (c : Cf) (es us : List En) (ae : Option Addr) (n : Nat) (code : Int) (e : Ending) (w' : World) : Prop :=
  e = .returned (.int .i64 code) ∧ (code ≠ 0 → Below w.heap.size w w') ∧ (code = 0 → ∃ vs ae' cap', vs.map En.says = us.map En.says ∧ LogAt w' base N ix tm c (es ++ vs) ae' (n + us.length) cap' ∧ NStep w w' N ae ae' ∧ NewE w.heap.size vs)
theorem appendOf_idx : ∀ (us : List En) (i t : Int), appendOf i t us = 0 → ∀ (k : Nat) u, us[k]? = some u → u.ix = i + 1 + k ∧ rightE u.ix u.tm u.kd u.s.bs = true
  | [], i, t, _, k, u, h => by simp at h
  | e :: r, i, t, h0, k, u, h => by
    rw [appendOf] at h0
    split at h0
    · omega
    · split at h0
      · omega
      · split at h0
        · omega
        · cases k with
          | zero =>
            simp only [List.getElem?_cons_zero, Option.some.injEq] at h
            subst h
            exact ⟨by omega, by simp_all⟩
          | succ k =>
            rw [List.getElem?_cons_succ] at h
            obtain ⟨h1, h2⟩ := appendOf_idx r _ _ h0 k u h
            exact ⟨by omega, h2⟩
theorem drop_en {us : List En} {k : Nat} {e : En} (h : us[k]? = some e) : us.drop k = e :: us.drop (k + 1) := by
  obtain ⟨hl, h2⟩ := List.getElem?_eq_some_iff.1 h
  rw [List.drop_eq_getElem_cons hl, h2]

set_option maxRecDepth 100000 in
set_option maxHeartbeats 6400000 in
theorem append_any (base N : Nat) (ix tm : Int) (c : Cf) (es : List En) (ae : Option Addr) (n cap : Nat) (a : Option Addr) (len cp : Nat) (us : List En) (w : World) (h : LogAt w base N ix tm c es ae n cap) (hs : Sound ix tm es) (hn : n + len ≤ 2000000000000)
    (hu : EnAt w (Off N ae) us a len) :
    Calls Try.prog 11 #[.pointer (some ⟨N, 0, none⟩), .slice a len cp] w (ApPost w base N ix tm c es us ae n (appendOf (lastOf ix tm es).1 (lastOf ix tm es).2 us)) := by
  have hl := last_any base N ix tm c es ae n cap w h (by omega)
  have hli := hs.last
  rw [h.len] at hli
  have hrx := hs.rx
  obtain ⟨⟨li, lt⟩, hlo⟩ : ∃ x, x = lastOf ix tm es := ⟨_, rfl⟩
  rw [← hlo] at hl hli ⊢
  simp only at hl hli ⊢
  obtain ⟨code, hcode⟩ : ∃ code, code = appendOf li lt us := ⟨_, rfl⟩
  rw [← hcode]
  have hbig : code = 0 → ∀ u ∈ us, u.s.len ≤ 140737488355328 := fun h0 u hum => by
    obtain ⟨k, hk⟩ := List.getElem?_of_mem hum
    have h1 := (rightE_iff.1 (appendOf_idx us li lt (hcode ▸ h0) k u hk).2).2.2.2.2.2.2.2
    have h2 := (hu.ok u hum).1.1.1
    omega
  have hul := hu.len
  have HL := Lib.hid hl
  have H := Lib.hid h
  have HU := Lib.hid hu
  have HB := Lib.hid hbig
  have HCD := Lib.hid hcode
  have hli0 : 0 ≤ li := by omega
  have hli1 : li ≤ 4398046511104 := by omega
  clear hl h hu hbig hcode hs hlo hli
  go_enter Try.func11, Try.ntmps11
  go_wp2_with fail
  refine HL.out.mono ?_
  rintro e w1 ⟨rfl, hb1⟩
  have HB1 := Lib.hid hb1
  clear hb1
  go_wp2_with fail
  go_loopw [5, 6, 18] (fun vi vt i wr => ∃ (k : Nat) (pi pt : Int), i = .int .i64 k ∧ vi = .int .i64 pi ∧ vt = .int .i64 pt ∧ k ≤ len ∧ 0 ≤ pi ∧ pi ≤ 4398046511104 ∧ Hid (code = appendOf pi pt (us.drop k)) ∧ Below w.heap.size w wr) (fun _ _ i _ => len - (intOf i).toNat)
  case atStart => exact ⟨0, li, lt, rfl, rfl, rfl, by omega, by omega, by omega, HCD.out, HB1.out⟩
  case round =>
    obtain ⟨k, pi, pt, rfl, rfl, rfl, hk, hp0, hp1, HG, hbw⟩ := hrel
    have hUw := HU.out.below hbw
    by_cases hlt : k < len
    · obtain ⟨u, huk⟩ : ∃ u, us[k]? = some u := ⟨_, List.getElem?_eq_getElem (by omega)⟩
      obtain ⟨b, off, rfl, e0, e1, e2, e3⟩ := en_at hUw.row hul k hlt u huk
      have hkl : (k : Int) < (len : Int) := by omega
      have hbx : Below wr.heap.size wr (wr.alloc (.cells #[.int .i64 u.ix, .int .i64 u.tm, .int .i64 u.kd, .slice u.s.a u.s.len u.s.cap] 32)) := below_alloc (Below.refl _ _) _
      have hrt := right_any u.ix u.tm u.kd u.s _ ((hUw.ok u (List.mem_of_getElem? huk)).1.below hbx)
      have hg2 := HG.out
      rw [drop_en huk, appendOf] at hg2
      have hbx2 : ∀ w2, Below (wr.alloc (.cells #[.int .i64 u.ix, .int .i64 u.tm, .int .i64 u.kd, .slice u.s.a u.s.len u.s.cap] 32)).heap.size (wr.alloc (.cells #[.int .i64 u.ix, .int .i64 u.tm, .int .i64 u.kd, .slice u.s.a u.s.len u.s.cap] 32)) w2 → w2.heap[wr.heap.size]? = some (.cells #[.int .i64 u.ix, .int .i64 u.tm, .int .i64 u.kd, .slice u.s.a u.s.len u.s.cap] 32 (0, 0)) := fun w2 hb => (hb.block _ (by rw [World.size_alloc]; omega)).trans (heap_alloc_new wr _)
      have hw1 : IntKind.i64.wrap (pi + 1) = pi + 1 := by rw [IntKind.wrap_i64] <;> omega
      have HRT := Lib.hid hrt
      have HG2 := Lib.hid hg2
      have HBX := Lib.hid hbx
      have HBX2 := Lib.hid hbx2
      have HBW := Lib.hid hbw
      clear hUw hrt hg2 hbx hbx2 hbw huk
      cases hv : rightE u.ix u.tm u.kd u.s.bs with
      | false =>
        rw [hv] at HRT HG2
        have hc : code = 1 := by have := HG2.out; rw [if_pos rfl] at this; exact this
        subst hc
        go_wp2_with fail
        refine HRT.out.mono ?_
        rintro e w2 ⟨rfl, hb2⟩
        go_wp2_with fail
        go_ret
        exact ⟨rfl, fun _ => below_then HBW.out (below_then HBX.out hb2), fun h => by cases h⟩
      | true =>
        rw [hv] at HRT HG2
        have hri := rightE_iff.1 hv
        clear hv
        by_cases hix : u.ix = pi + 1
        · by_cases htm : u.tm < pt
          · have hc : code = 42 := by have := HG2.out; rw [if_neg (by simp), if_neg (by simpa using hix), if_pos htm] at this; exact this
            subst hc
            have hne : (u.ix != pi + 1) = false := by simp [hix]
            clear hix
            go_wp2_with fail
            refine HRT.out.mono ?_
            rintro e w2 ⟨rfl, hb2⟩
            obtain ⟨⟨b0, b1, b2, b3⟩, _⟩ := four_cells (HBX2.out _ hb2)
            go_wp2_with fail
            go_ret
            exact ⟨rfl, fun _ => below_then HBW.out (below_then HBX.out hb2), fun h => by cases h⟩
          · have hc : code = appendOf u.ix u.tm (us.drop (k + 1)) := by have := HG2.out; rw [if_neg (by simp), if_neg (by simpa using hix), if_neg htm] at this; exact this
            have HC := Lib.hid hc
            have hne : (u.ix != pi + 1) = false := by simp [hix]
            clear hc hix
            go_wp2_with fail
            refine HRT.out.mono ?_
            rintro e w2 ⟨rfl, hb2⟩
            obtain ⟨⟨b0, b1, b2, b3⟩, _⟩ := four_cells (HBX2.out _ hb2)
            go_wp2_with fail
            go_quiet (fail)
            go_wp2_with fail
            go_roundw
            case rel => exact ⟨k + 1, u.ix, u.tm, by go_num, rfl, rfl, by omega, by omega, by omega, HC.out, below_drewN (below_then HBW.out (below_then HBX.out hb2)) _⟩
            case measure => simp [intOf]; omega
        · have hc : code = 60 := by have := HG2.out; rw [if_neg (by simp), if_pos hix] at this; exact this
          subst hc
          have hne : (u.ix != pi + 1) = true := by simp [hix]
          go_wp2_with fail
          refine HRT.out.mono ?_
          rintro e w2 ⟨rfl, hb2⟩
          obtain ⟨⟨b0, b1, b2, b3⟩, _⟩ := four_cells (HBX2.out _ hb2)
          go_wp2_with fail
          go_ret
          exact ⟨rfl, fun _ => below_then HBW.out (below_then HBX.out hb2), fun h => by cases h⟩
    · have hke : k = len := by omega
      subst hke
      have hc : code = 0 := by rw [HG.out, List.drop_of_length_le (by omega)]; rfl
      subst hc
      obtain ⟨wo, rfl⟩ : ∃ wo, wo = wr := ⟨_, rfl⟩
      have HBW := Lib.hid hbw
      clear hbw hUw
      go_wp2_with fail
      go_loopw [44] (fun i wr => ∃ (q : Nat) (vs : List En) (ae' : Option Addr) (cap' : Nat), i = .int .i64 q ∧ q ≤ k ∧ vs.map En.says = (us.take q).map En.says ∧ LogAt wr base N ix tm c (es ++ vs) ae' (n + q) cap' ∧ NStep w wr N ae ae' ∧ Hid (NewE w.heap.size vs)) (fun i _ => k - (intOf i).toNat)
      case atStart => exact ⟨0, [], ae, cap, rfl, by omega, by simp, by rw [List.append_nil]; exact H.out.below HBW.out, NStep.of_below HBW.out, Lib.hid fun v hv => by cases hv⟩
      case round =>
        obtain ⟨q, vs, ae', cap', rfl, hq, hsay, hL, hst, HNE⟩ := hrel
        have hUw := HU.out.nstep hst
        by_cases hqk : q < k
        · obtain ⟨u, huq⟩ : ∃ u, us[q]? = some u := ⟨_, List.getElem?_eq_getElem (by omega)⟩
          obtain ⟨b, off, rfl, e0, e1, e2, e3⟩ := en_at hUw.row hul q hqk u huq
          have hql : (q : Int) < (k : Int) := by omega
          have hmem := List.mem_of_getElem? huq
          have huo := (hUw.ok u hmem).1
          have hbx : Below wr.heap.size wr (wr.alloc (.cells #[.int .i64 u.ix, .int .i64 u.tm, .int .i64 u.kd, .slice u.s.a u.s.len u.s.cap] 32)) := below_alloc (Below.refl _ _) _
          have hcl := clone_any u.s.a u.s.len u.s.cap u.s.bs _ (huo.below hbx).1 (fun e => by have := huo.2.2.2 e; have := huo.2.1; omega) (HB.out (by simp) u hmem)
          have hbx2 : ∀ w2, Below (wr.alloc (.cells #[.int .i64 u.ix, .int .i64 u.tm, .int .i64 u.kd, .slice u.s.a u.s.len u.s.cap] 32)).heap.size (wr.alloc (.cells #[.int .i64 u.ix, .int .i64 u.tm, .int .i64 u.kd, .slice u.s.a u.s.len u.s.cap] 32)) w2 → w2.heap[wr.heap.size]? = some (.cells #[.int .i64 u.ix, .int .i64 u.tm, .int .i64 u.kd, .slice u.s.a u.s.len u.s.cap] 32 (0, 0)) := fun w2 hb => (hb.block _ (by rw [World.size_alloc]; omega)).trans (heap_alloc_new wr _)
          have HCL := Lib.hid hcl
          have HBX := Lib.hid hbx
          have HBX2 := Lib.hid hbx2
          have HLL := Lib.hid hL
          have HST := Lib.hid hst
          have HUQ := Lib.hid huq
          have HSY := Lib.hid hsay
          have hNl := lt_of_block hL.cell
          have hzst := hst.size
          clear hUw huo hbx hcl hbx2 hL hst huq hmem hsay
          go_wp2_with fail
          refine HCL.out.mono ?_
          rintro e w2 ⟨aq, cq, rfl, hown2, hb2⟩
          obtain ⟨⟨b0, b1, b2, b3⟩, y0, y1, y2, y3⟩ := four_cells (HBX2.out _ hb2)
          have hbb := below_then HBX.out hb2
          have HOW := Lib.hid hown2
          have HBB := Lib.hid hbb
          have HB2 := Lib.hid hb2
          have hz2 := hbb.size
          clear hown2 hbb hb2
          go_wp2_with fail
          obtain ⟨Y, hY⟩ : ∃ Y, Y = w2.setCell ⟨wr.heap.size, 3, none⟩ (.slice aq u.s.len cq) := ⟨_, rfl⟩
          have hbY : Below wr.heap.size wr Y := hY ▸ below_set HBB.out _ (Nat.le_refl _)
          have hYb : Y.heap[wr.heap.size]? = some (.cells #[.int .i64 u.ix, .int .i64 u.tm, .int .i64 u.kd, .slice aq u.s.len cq] 32 (0, 0)) := hY ▸ set_block (i := 3) (HBX2.out _ HB2.out) _
          have hoY : Own8 Y wr.heap.size aq u.s.len cq u.s.bs := by
            have h1 := HOW.out
            rw [hY]
            exact own_more (own_keep h1 fun g hg hl => Below.heap_setCell w2 _ _ g (by have := (h1.lt g hg).1; rw [World.size_alloc] at this; simp; omega)) (by rw [World.size_alloc]; omega)
          have hLY := HLL.out.below hbY
          obtain ⟨⟨_, _, _, _, n4⟩, _⟩ := five_cells hLY.cell
          have n5 : ∀ o, (Y.alloc o).cell? ⟨N, 4, none⟩ = some (.slice ae' (n + q) cap') := fun o => (five_cells ((heap_alloc_old Y o (lt_of_block hLY.cell)).trans hLY.cell)).1.2.2.2.2
          rw [← hY]
          clear b0 b1 b2 b3 y0 y1 y2 y3
          obtain ⟨⟨b0, b1, b2, b3⟩, _⟩ := four_cells hYb
          have HBY := Lib.hid hbY
          have HOY := Lib.hid hoY
          have HLY := Lib.hid hLY
          have hzY := hbY.size
          clear hY hbY hYb hoY hLY
          go_region_law (first
            | (refine step_appendE rfl (.tmp 56) (.tmp 58) rfl base ae' (n + q) cap' ((es ++ vs).flatMap En.cells) rfl (own_keep HLY.out.row fun g _ hl => heap_alloc_old Y _ hl) (some ⟨Y.heap.size, 0, none⟩) 1 1 (En.cells ⟨u.ix, u.tm, u.kd, ⟨aq, u.s.len, cq, u.s.bs⟩⟩) rfl (RowN.of_block (heap_alloc_new Y _) rfl rfl) (fun h => by cases h) (cells_one4 _) (by omega) (by rw [size_drew, World.size_alloc]; have := HLY.out.lo; have := lt_of_block HLY.out.cell; omega) (n + q + 1) rfl ?_
               intro ao3 cap3 w3 hown3 hg3 hat3
               have h3 := log_snoc (l := ⟨u.ix, u.tm, u.kd, ⟨aq, u.s.len, cq, u.s.bs⟩⟩) HLL.out (w2 := Y) HBY.out (grown_undrew hg3) hown3 HOY.out hat3
               have hc3 := (five_cells h3.1).1.2.2.2.2; have hf3 := (five_cells h3.1).2.2.2.2.2; have H3 := Lib.hid h3; clear h3))
          all_goals
            go_wp2_with fail
            go_roundw
            case rel =>
              refine ⟨q + 1, vs ++ [⟨u.ix, u.tm, u.kd, ⟨aq, u.s.len, cq, u.s.bs⟩⟩], ao3, cap3, by go_num, by omega, ?_, ?_, HST.out.trans H3.out.2.2, Lib.hid (?_ : NewE _ _)⟩
              · rw [List.map_append, HSY.out, List.take_add_one, HUQ.out, List.map_append]
                rfl
              · rw [← List.append_assoc]
                exact H3.out.2.1
              · intro v hv g hg
                rcases List.mem_append.1 hv with hv | hv
                · exact HNE.out v hv g hg
                · rw [List.mem_singleton] at hv
                  subst hv
                  exact Nat.le_trans hzst (HOY.out.lt g hg).1
            case measure => simp [intOf]; omega
        · have hqe : q = k := by omega
          subst hqe
          rw [List.take_of_length_le (by omega)] at hsay
          go_wp2_with fail
          go_ret
          exact ⟨rfl, fun h => absurd rfl h, fun _ => ⟨vs, ae', cap', hsay, by rw [hul]; exact hL, hst, HNE.out⟩⟩
end Go.Proofs.Ytpaommkjafdghaa
