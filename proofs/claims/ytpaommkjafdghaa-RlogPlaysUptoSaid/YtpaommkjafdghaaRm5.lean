/- The document's Append. -/
import Derived.Test.YtpaommkjafdghaaRm4
namespace Go.Proofs.Ytpaommkjafdghaa
open Go.RowKit

/-- the log itself, and a number -/
def RetSame (w : World) (ix tm : Int) (c : Cf) (a : Option Addr) (n cap : Nat) (code : Int) (e : Ending) (w' : World) : Prop :=
  e = .returned (.tuple #[.agg #[.int .i64 ix, .int .i64 tm, .slice c.v.a c.v.len c.v.cap, .slice c.l.a c.l.len c.l.cap, .slice a n cap], .int .i64 code]) ∧ Below w.heap.size w w'
def RApp (w : World) (ix tm : Int) (c : Cf) (a : Option Addr) (n cap : Nat) (es us : List En) (code : Int) (e : Ending) (w' : World) : Prop :=
  (code ≠ 0 → RetSame w ix tm c a n cap code e w') ∧ (code = 0 → RetLog w ix tm c (es ++ us) 0 e w')

set_option maxRecDepth 100000 in
set_option maxHeartbeats 6400000 in
theorem rappend_any (ix tm : Int) (c : Cf) (a : Option Addr) (n cap : Nat) (es : List En) (a2 : Option Addr) (len cp2 : Nat) (us : List En) (w : World) (h : EnR w es a n) (hs : Sound ix tm es) (h2 : EnR w us a2 len) (hok : ∀ u ∈ us, Sl.ok w u.s) (hn : n + len ≤ 2000000000000) (hn2 : n ≤ 1099511627776) :
    Calls Try.prog 24 #[.agg #[.int .i64 ix, .int .i64 tm, .slice c.v.a c.v.len c.v.cap, .slice c.l.a c.l.len c.l.cap, .slice a n cap], .slice a2 len cp2] w (RApp w ix tm c a n cap es us (appendOf (lastOf ix tm es).1 (lastOf ix tm es).2 us)) := by
  obtain ⟨X, hX⟩ : ∃ X, X = boxes w ix tm c a n cap := ⟨_, rfl⟩
  obtain ⟨hXb, hXs, hXc⟩ := boxes_is hX
  have hla := rlast_any ix tm c a n cap es X (h.below hXb) (by omega)
  have hls := hs.last
  have hrx := hs.rx
  have hlen := h.len
  obtain ⟨p, hp⟩ : ∃ p, p = lastOf ix tm es := ⟨_, rfl⟩
  rw [← hp] at hla hls ⊢
  obtain ⟨li, lt⟩ := p
  simp only at hla hls ⊢
  obtain ⟨code, hcode⟩ : ∃ code, code = appendOf li lt us := ⟨_, rfl⟩
  rw [← hcode]
  have HLA := Lib.hid hla
  have HXB := Lib.hid hXb
  have HXS := Lib.hid hXs
  have HXC := Lib.hid hXc
  have HX := Lib.hid hX
  have HCD := Lib.hid hcode
  have HR := Lib.hid (h.below hXb)
  have HU := Lib.hid (h2.below hXb)
  have HUK := Lib.hid (fun u hu => (hok u hu).below hXb)
  have HLEN := Lib.hid hlen
  have HUL := Lib.hid h2.len
  have hli0 : 0 ≤ li := by omega
  have hli1 : li ≤ 4398046511104 := by omega
  clear hla hXb hXs hXc hX hcode h h2 hok hs hp hls hrx hlen
  go_enter Try.func24, Try.ntmps24
  go_wp2_with fail
  have hx := HX.out
  unfold boxes at hx
  rw [← hx]
  clear hx
  refine HLA.out.mono ?_
  rintro e w2 ⟨rfl, hb2⟩
  have HB2 := Lib.hid hb2
  clear hb2
  have h0 := World.ownsRow_lit (base := X.heap.size) (e := 32) (size := 4) w2 #[] 0 HB2.out.size (by omega) rfl
  have H0 := Lib.hid h0
  clear h0
  go_wp2_with fail
  go_loopw [8, 9] (fun vo i wr => ∃ (k : Nat) (ao : Option Addr) (cp : Nat), i = .int .i64 k ∧ vo = .slice ao k cp ∧ k ≤ n ∧ Hid (wr.ownsRow X.heap.size 32 4 (.slice ao k cp) k ((es.take k).flatMap En.cells)) ∧ Hid (Below X.heap.size X wr)) (fun _ i _ => n - (intOf i).toNat)
  case atStart => exact ⟨0, some ⟨w2.heap.size, 0, none⟩, 0, rfl, rfl, by omega, H0.out, below_alloc HB2.out _⟩
  case round =>
    obtain ⟨k, ao, cp, rfl, rfl, hk, HO, HB⟩ := hrel
    obtain ⟨hc1, hc2⟩ := HXC.out _ HB.out
    obtain ⟨⟨b0, b1, b2, b3, b4⟩, f0, f1, f2, f3, f4⟩ := five_cells hc1
    have HC1 := Lib.hid hc1
    have HC2 := Lib.hid hc2
    clear hc1 hc2
    by_cases hlt : k < n
    · obtain ⟨e, hek⟩ : ∃ e, es[k]? = some e := ⟨_, List.getElem?_eq_getElem (by rw [HLEN.out]; exact hlt)⟩
      obtain ⟨b, off, rfl, e0, e1, e2, e3⟩ := en_at (HR.out.below HB.out).row HLEN.out k hlt e hek
      have hkn : (k : Int) < (n : Int) := by omega
      have HEK := Lib.hid hek
      clear hek
      go_wp2_with (at_builtin; refine wpList_appendE rfl (.tmp 25) (.tmp 31) rfl X.heap.size ao k cp ((es.take k).flatMap En.cells) rfl (own_keep HO.out fun g _ hl => alloc_far rfl hl) (some ⟨wr.heap.size, 0, none⟩) 1 1 e.cells rfl (RowN.newH _ _ _ 4 1 _ _ rfl rfl rfl) (fun h => by cases h) (cells_one4 _) (by omega) (by rw [World.size_alloc]; have := HB.out.size; omega) (k + 1) rfl ?_; intro ao3 cap3 w3 hown3 hg3 hat3)
      go_roundw
      case rel =>
        refine ⟨k + 1, ao3, cap3, by go_num, rfl, by omega, ?_, (below_alloc HB.out _).grown hg3 (by rw [World.size_alloc]; have := HB.out.size; omega) (fun g hg => (HO.out.lt g hg).1)⟩
        show World.ownsRow _ _ _ _ _ _ _
        rw [List.take_add_one, HEK.out, List.flatMap_append]
        simpa using hown3
      case measure => simp [intOf]; omega
    · have hke : k = n := by omega
      subst hke
      have ho := HO.out
      rw [List.take_of_length_le (by rw [HLEN.out]; exact Nat.le_refl _)] at ho
      have HO2 := Lib.hid ho
      obtain ⟨wo, rfl⟩ : ∃ wo, wo = wr := ⟨_, rfl⟩
      clear ho HO
      go_wp2_with fail
      go_loopw [6, 7, 8, 10] (fun vi vt vo i wr => ∃ (q : Nat) (pi pt : Int) (ao : Option Addr) (cp : Nat), i = .int .i64 q ∧ vi = .int .i64 pi ∧ vt = .int .i64 pt ∧ vo = .slice ao (k + q) cp ∧ q ≤ len ∧ 0 ≤ pi ∧ pi ≤ 4398046511104 ∧ Hid (code = appendOf pi pt (us.drop q)) ∧ Hid (wr.ownsRow X.heap.size 32 4 (.slice ao (k + q) cp) (k + q) ((es ++ us.take q).flatMap En.cells)) ∧ Hid (Below X.heap.size X wr)) (fun _ _ _ i _ => len - (intOf i).toNat)
      case atStart => exact ⟨0, li, lt, ao, cp, rfl, rfl, rfl, rfl, by omega, by omega, by omega, HCD.out, by rw [List.take_zero, List.append_nil]; exact HO2, HB⟩
      case round =>
        obtain ⟨q, pi, pt, ao, cp, rfl, rfl, rfl, rfl, hq, hp0, hp1, HG, HO, HB⟩ := hrel
        clear b0 b1 b2 b3 b4 f0 f1 f2 f3 f4 HC1 HC2
        by_cases hlt : q < len
        · obtain ⟨u, huk⟩ : ∃ u, us[q]? = some u := ⟨_, List.getElem?_eq_getElem (by rw [HUL.out]; omega)⟩
          obtain ⟨b, off, rfl, e0, e1, e2, e3⟩ := en_at (HU.out.below HB.out).row HUL.out q hlt u huk
          have hql : (q : Int) < (len : Int) := by omega
          obtain ⟨Y, hY⟩ : ∃ Y, Y = wr.alloc (.cells #[.int .i64 u.ix, .int .i64 u.tm, .int .i64 u.kd, .slice u.s.a u.s.len u.s.cap] 32) := ⟨_, rfl⟩
          have hbY : Below wr.heap.size wr Y := hY ▸ below_alloc (Below.refl _ _) _
          have hYb : Y.heap[wr.heap.size]? = some (.cells #[.int .i64 u.ix, .int .i64 u.tm, .int .i64 u.kd, .slice u.s.a u.s.len u.s.cap] 32 (0, 0)) := hY ▸ heap_alloc_new wr _
          have hrt := rright_any u.ix u.tm u.kd u.s Y ((HUK.out u (List.mem_of_getElem? huk)).below (below_then HB.out hbY))
          have hg2 := HG.out
          rw [drop_en huk, appendOf] at hg2
          have hw1 : IntKind.i64.wrap (pi + 1) = pi + 1 := by rw [IntKind.wrap_i64] <;> omega
          have HRT := Lib.hid hrt
          have HG2 := Lib.hid hg2
          have HBY := Lib.hid hbY
          have HYB := Lib.hid hYb
          have HY := Lib.hid hY
          have HUQ := Lib.hid huk
          clear hrt hg2 hbY hYb hY huk
          cases hv : rightE u.ix u.tm u.kd u.s.bs with
          | false =>
            rw [hv] at HRT HG2
            have hc : code = 1 := by have := HG2.out; rw [if_pos rfl] at this; exact this
            subst hc
            go_wp2_with fail
            rw [← HY.out]
            refine HRT.out.mono ?_
            rintro e w3 ⟨rfl, hb3⟩
            have hbX3 := below_then (below_then HB.out HBY.out) hb3
            obtain ⟨hc1, hc2⟩ := HXC.out _ hbX3
            obtain ⟨⟨b0, b1, b2, b3, b4⟩, f0, f1, f2, f3, f4⟩ := five_cells hc1
            obtain ⟨⟨d0, d1, d2, d3, d4⟩, g0, g1, g2, g3, g4⟩ := five_cells hc2
            obtain ⟨⟨y0, y1, y2, y3⟩, _⟩ := four_cells ((hb3.block _ (lt_of_block HYB.out)).trans HYB.out)
            have HC2 := Lib.hid hc2
            have HBX3 := Lib.hid hbX3
            clear hb3 hbX3 hc1 hc2
            go_wp2_with fail
            have ht : Touch [w.heap.size + 1] w3 (put5 w3 (w.heap.size + 1) (.int .i64 ix) (.int .i64 tm) (.slice c.v.a c.v.len c.v.cap) (.slice c.l.a c.l.len c.l.cap) (.slice a k cap)) := put5_touch (Touch.refl _ _) (by simp)
            have hbz : Below w.heap.size w _ := ht.below (below_then HXB.out HBX3.out) (by have := HBX3.out.size; have := HXS.out; omega) (fun k hk => by simp at hk; omega)
            exact bodyPost_ret (results_cell_tmp Try.results24 rfl (load_rlog (put5_block HC2.out))) rfl ⟨fun _ => ⟨rfl, hbz⟩, fun h => by cases h⟩
          | true =>
            rw [hv] at HRT HG2
            have hri := rightE_iff.1 hv
            clear hv
            by_cases hix : u.ix = pi + 1
            · have hne : (u.ix != pi + 1) = false := by simp [hix]
              by_cases htm : u.tm < pt
              · have hc : code = 42 := by have := HG2.out; rw [if_neg (by simp), if_neg (by simpa using hix), if_pos htm] at this; exact this
                subst hc
                clear hix hri
                go_wp2_with fail
                rw [← HY.out]
                refine HRT.out.mono ?_
                rintro e w3 ⟨rfl, hb3⟩
                have hbX3 := below_then (below_then HB.out HBY.out) hb3
                obtain ⟨hc1, hc2⟩ := HXC.out _ hbX3
                obtain ⟨⟨b0, b1, b2, b3, b4⟩, f0, f1, f2, f3, f4⟩ := five_cells hc1
                obtain ⟨⟨d0, d1, d2, d3, d4⟩, g0, g1, g2, g3, g4⟩ := five_cells hc2
                obtain ⟨⟨y0, y1, y2, y3⟩, _⟩ := four_cells ((hb3.block _ (lt_of_block HYB.out)).trans HYB.out)
                have HC2 := Lib.hid hc2
                have HBX3 := Lib.hid hbX3
                clear hb3 hbX3 hc1 hc2
                go_wp2_with fail
                have ht : Touch [w.heap.size + 1] w3 (put5 w3 (w.heap.size + 1) (.int .i64 ix) (.int .i64 tm) (.slice c.v.a c.v.len c.v.cap) (.slice c.l.a c.l.len c.l.cap) (.slice a k cap)) := put5_touch (Touch.refl _ _) (by simp)
                have hbz : Below w.heap.size w _ := ht.below (below_then HXB.out HBX3.out) (by have := HBX3.out.size; have := HXS.out; omega) (fun k hk => by simp at hk; omega)
                exact bodyPost_ret (results_cell_tmp Try.results24 rfl (load_rlog (put5_block HC2.out))) rfl ⟨fun _ => ⟨rfl, hbz⟩, fun h => by cases h⟩
              · have hc : code = appendOf u.ix u.tm (us.drop (q + 1)) := by have := HG2.out; rw [if_neg (by simp), if_neg (by simpa using hix), if_neg htm] at this; exact this
                have HC := Lib.hid hc
                have hui : 0 ≤ u.ix ∧ u.ix ≤ 4398046511104 := by omega
                clear hc hix hri
                go_wp2_with fail
                rw [← HY.out]
                refine HRT.out.mono ?_
                rintro e w3 ⟨rfl, hb3⟩
                have hO3 := own_keep HO.out (w' := w3) fun g _ hl => (below_then HBY.out hb3).block g hl
                have hbX3 := below_then (below_then HB.out HBY.out) hb3
                obtain ⟨hc1, hc2⟩ := HXC.out _ hbX3
                obtain ⟨⟨b0, b1, b2, b3, b4⟩, f0, f1, f2, f3, f4⟩ := five_cells hc1
                obtain ⟨⟨d0, d1, d2, d3, d4⟩, g0, g1, g2, g3, g4⟩ := five_cells hc2
                obtain ⟨⟨y0, y1, y2, y3⟩, _⟩ := four_cells ((hb3.block _ (lt_of_block HYB.out)).trans HYB.out)
                have HC2 := Lib.hid hc2
                have HBX3 := Lib.hid hbX3
                clear hb3 hbX3 hc1 hc2
                have HO3 := Lib.hid hO3
                clear hO3
                go_wp2_with (at_builtin; refine wpList_appendE rfl (.tmp 62) (.tmp 64) rfl X.heap.size ao (k + q) cp ((es ++ us.take q).flatMap En.cells) rfl (own_keep HO3.out fun g _ hl => alloc_far rfl hl) (some ⟨w3.heap.size, 0, none⟩) 1 1 u.cells rfl (RowN.newH _ _ _ 4 1 _ _ rfl rfl rfl) (fun h => by cases h) (cells_one4 _) (by omega) (by rw [World.size_alloc]; have := HBX3.out.size; omega) (k + q + 1) rfl ?_; intro ao3 cap3 w4 hown3 hg3' hat3)
                go_roundw
                case rel =>
                  refine ⟨q + 1, u.ix, u.tm, ao3, cap3, by go_num, rfl, rfl, rfl, by omega, hui.1, hui.2, HC.out, ?_, (below_alloc HBX3.out _).grown hg3' (by rw [World.size_alloc]; have := HBX3.out.size; omega) (fun g hg => (HO3.out.lt g hg).1)⟩
                  show World.ownsRow _ _ _ _ _ _ _
                  rw [List.take_add_one, HUQ.out, ← List.append_assoc, List.flatMap_append, show k + (q + 1) = k + q + 1 from rfl]
                  simpa [Nat.add_assoc] using hown3
                case measure => simp [intOf]; omega
            · have hne : (u.ix != pi + 1) = true := by simp [hix]
              have hc : code = 60 := by have := HG2.out; rw [if_neg (by simp), if_pos hix] at this; exact this
              subst hc
              clear hix hri
              go_wp2_with fail
              rw [← HY.out]
              refine HRT.out.mono ?_
              rintro e w3 ⟨rfl, hb3⟩
              have hbX3 := below_then (below_then HB.out HBY.out) hb3
              obtain ⟨hc1, hc2⟩ := HXC.out _ hbX3
              obtain ⟨⟨b0, b1, b2, b3, b4⟩, f0, f1, f2, f3, f4⟩ := five_cells hc1
              obtain ⟨⟨d0, d1, d2, d3, d4⟩, g0, g1, g2, g3, g4⟩ := five_cells hc2
              obtain ⟨⟨y0, y1, y2, y3⟩, _⟩ := four_cells ((hb3.block _ (lt_of_block HYB.out)).trans HYB.out)
              have HC2 := Lib.hid hc2
              have HBX3 := Lib.hid hbX3
              clear hb3 hbX3 hc1 hc2
              go_wp2_with fail
              have ht : Touch [w.heap.size + 1] w3 (put5 w3 (w.heap.size + 1) (.int .i64 ix) (.int .i64 tm) (.slice c.v.a c.v.len c.v.cap) (.slice c.l.a c.l.len c.l.cap) (.slice a k cap)) := put5_touch (Touch.refl _ _) (by simp)
              have hbz : Below w.heap.size w _ := ht.below (below_then HXB.out HBX3.out) (by have := HBX3.out.size; have := HXS.out; omega) (fun k hk => by simp at hk; omega)
              exact bodyPost_ret (results_cell_tmp Try.results24 rfl (load_rlog (put5_block HC2.out))) rfl ⟨fun _ => ⟨rfl, hbz⟩, fun h => by cases h⟩
        · have hqe : q = len := by omega
          subst hqe
          have hc : code = 0 := by rw [HG.out, List.drop_of_length_le (by rw [HUL.out]; exact Nat.le_refl _)]; rfl
          subst hc
          have ho := HO.out
          rw [List.take_of_length_le (by rw [HUL.out]; exact Nat.le_refl _)] at ho
          have HO3 := Lib.hid ho
          have hll : (es ++ us).length = k + q := by rw [List.length_append, HLEN.out, HUL.out]
          obtain ⟨hc1, hc2⟩ := HXC.out _ HB.out
          obtain ⟨⟨b0, b1, b2, b3, b4⟩, f0, f1, f2, f3, f4⟩ := five_cells hc1
          obtain ⟨⟨d0, d1, d2, d3, d4⟩, g0, g1, g2, g3, g4⟩ := five_cells hc2
          have HC2 := Lib.hid hc2
          have HLL := Lib.hid hll
          clear ho hc1 hc2 hll
          go_wp2_with fail
          have ht : Touch [w.heap.size, w.heap.size + 1] wr (put5 (wr.setCell ⟨w.heap.size, 4, none⟩ (.slice ao (k + q) cp)) (w.heap.size + 1) (.int .i64 ix) (.int .i64 tm) (.slice c.v.a c.v.len c.v.cap) (.slice c.l.a c.l.len c.l.cap) (.slice ao (k + q) cp)) :=
            put5_touch (touch_set (Touch.refl _ _) _ _ _ (by simp)) (by simp)
          have hxs := HXS.out
          have hown2 := own_keep HO3.out fun g hg hl => ht.block g hl (by have := (HO3.out.lt g hg).1; simp; omega)
          have hbz : Below w.heap.size w _ := ht.below (below_then HXB.out HB.out) (by have := HB.out.size; omega) (fun k hk => by simp at hk; omega)
          refine bodyPost_ret (results_cell_tmp Try.results24 rfl (load_rlog (put5_block (set_far HC2.out (by omega))))) rfl ⟨fun h => absurd rfl h, fun _ => ⟨ao, cp, by rw [HLL.out]; rfl, ?_, hbz⟩⟩
          rw [HLL.out]
          exact own_more hown2 (by omega)
end Go.Proofs.Ytpaommkjafdghaa
