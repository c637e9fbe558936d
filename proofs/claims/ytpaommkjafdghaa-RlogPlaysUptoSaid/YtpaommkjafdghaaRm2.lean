/- The document's log: part, CutFrom, From. -/
import Derived.Test.YtpaommkjafdghaaRm1
namespace Go.Proofs.Ytpaommkjafdghaa
open Go.RowKit

def inR (fr to : Int) (e : En) : Bool := decide (fr ≤ e.ix) && decide (e.ix ≤ to)
theorem five_at {w : World} {B : Nat} {T : TypeId} {c0 c1 c2 c3 c4 : Value} {X : World} (hX : X = w.alloc (.cells #[c0, c1, c2, c3, c4] T)) (hB : B = w.heap.size) : ∀ Z, Below X.heap.size X Z → Z.heap[B]? = some (.cells #[c0, c1, c2, c3, c4] T (0, 0)) := fun Z hZ => by
  subst hB hX
  exact (hZ.block _ (by rw [World.size_alloc]; omega)).trans (heap_alloc_new w _)
theorem filter_snoc {p : En → Bool} {es : List En} {k : Nat} {e : En} (h : es[k]? = some e) : (es.take (k + 1)).filter p = (es.take k).filter p ++ (if p e = true then [e] else []) := by
  rw [List.take_add_one, h, List.filter_append]
  congr 1
  simp only [Option.toList_some, List.filter_cons, List.filter_nil]

set_option maxRecDepth 100000 in
set_option maxHeartbeats 6400000 in
theorem rpart_any (ix tm : Int) (c : Cf) (a : Option Addr) (n cap : Nat) (es : List En) (fr to : Int) (w : World) (h : EnR w es a n) (hn : n ≤ 1099511627776) :
    Calls Try.prog 39 #[.agg #[.int .i64 ix, .int .i64 tm, .slice c.v.a c.v.len c.v.cap, .slice c.l.a c.l.len c.l.cap, .slice a n cap], .int .i64 fr, .int .i64 to] w (RetRow w (es.filter (inR fr to))) := by
  obtain ⟨X, hX⟩ : ∃ X, X = w.alloc (.cells #[.int .i64 ix, .int .i64 tm, .slice c.v.a c.v.len c.v.cap, .slice c.l.a c.l.len c.l.cap, .slice a n cap] 53) := ⟨_, rfl⟩
  have hXb : Below w.heap.size w X := hX ▸ below_alloc (Below.refl _ _) _
  have hXs : X.heap.size = w.heap.size + 1 := by rw [hX, World.size_alloc]
  have hbx := five_at hX rfl
  have h0 := World.ownsRow_lit (base := X.heap.size) (e := 32) (size := 4) X #[] 0 (by omega) (by omega) rfl
  have HBX := Lib.hid hbx
  have HXB := Lib.hid hXb
  have HXS := Lib.hid hXs
  have H0 := Lib.hid h0
  have HX := Lib.hid hX
  have HR := Lib.hid (h.below hXb)
  have HLEN := Lib.hid h.len
  unfold RetRow
  obtain ⟨ps, hps⟩ : ∃ ps, ps = es.filter (inR fr to) := ⟨_, rfl⟩
  rw [← hps]
  have HPS := Lib.hid hps
  clear h hX hXb hXs hbx h0 hps
  go_enter Try.func39, Try.ntmps39
  go_wp2_with fail
  rw [← HX.out]
  go_loopw [7, 8] (fun vo i wr => ∃ (k q : Nat) (ao : Option Addr) (cp : Nat), i = .int .i64 k ∧ vo = .slice ao q cp ∧ k ≤ n ∧ Hid (((es.take k).filter (inR fr to)).length = q) ∧ Hid (wr.ownsRow X.heap.size 32 4 (.slice ao q cp) q (((es.take k).filter (inR fr to)).flatMap En.cells)) ∧ Hid (Below X.heap.size X wr)) (fun _ i _ => n - (intOf i).toNat)
  case atStart => exact ⟨0, 0, some ⟨X.heap.size, 0, none⟩, 0, rfl, by rw [HXS.out], by omega, rfl, H0.out, below_alloc (Below.refl _ _) _⟩
  case round =>
    obtain ⟨k, q, ao, cp, rfl, rfl, hk, HQ, HO, HB⟩ := hrel
    obtain ⟨⟨b0, b1, b2, b3, b4⟩, _⟩ := five_cells (HBX.out _ HB.out)
    by_cases hlt : k < n
    · obtain ⟨e, hek⟩ : ∃ e, es[k]? = some e := ⟨_, List.getElem?_eq_getElem (by rw [HLEN.out]; exact hlt)⟩
      obtain ⟨b, off, rfl, e0, e1, e2, e3⟩ := en_at (HR.out.below HB.out).row HLEN.out k hlt e hek
      have hkn : (k : Int) < (n : Int) := by omega
      have hsn := filter_snoc (p := inR fr to) hek
      have hqk : q ≤ k := by
        have h1 := HQ.out
        have h2 := List.length_filter_le (inR fr to) (es.take k)
        rw [List.length_take] at h2
        omega
      by_cases h1 : fr ≤ e.ix
      · by_cases h2 : e.ix ≤ to
        · rw [if_pos (by simp [inR, h1, h2])] at hsn
          have HSN := Lib.hid hsn
          clear hsn hek
          go_wp2_with (at_builtin; refine wpList_appendE rfl (.tmp 35) (.tmp 41) rfl X.heap.size ao q cp (((es.take k).filter (inR fr to)).flatMap En.cells) rfl (own_keep HO.out fun g _ hl => alloc_far rfl hl) (some ⟨wr.heap.size, 0, none⟩) 1 1 e.cells rfl (RowN.newH _ _ _ 4 1 _ _ rfl rfl rfl) (fun h => by cases h) (cells_one4 _) (by omega) (by rw [World.size_alloc]; have := HB.out.size; omega) (q + 1) rfl ?_; intro ao3 cap3 w3 hown3 hg3 hat3)
          go_roundw
          case rel =>
            refine ⟨k + 1, q + 1, ao3, cap3, by go_num, rfl, by omega, Lib.hid ?_, ?_, (below_alloc HB.out _).grown hg3 (by rw [World.size_alloc]; have := HB.out.size; omega) (fun g hg => (HO.out.lt g hg).1)⟩
            · rw [HSN.out, List.length_append, HQ.out]
              rfl
            · show World.ownsRow _ _ _ _ _ _ _
              rw [HSN.out, List.flatMap_append]
              simpa using hown3
          case measure => simp [intOf]; omega
        · rw [if_neg (by simp [inR, h2]), List.append_nil] at hsn
          have HSN := Lib.hid hsn
          clear hsn hek
          have h2' : ¬ e.ix ≤ to := h2
          go_wp2_with fail
          go_roundw
          case rel => exact ⟨k + 1, q, ao, cp, by go_num, rfl, by omega, by rw [HSN.out]; exact HQ, by rw [HSN.out]; exact HO, HB⟩
          case measure => simp [intOf]; omega
      · rw [if_neg (by simp [inR, h1]), List.append_nil] at hsn
        have HSN := Lib.hid hsn
        clear hsn hek
        go_wp2_with fail
        go_roundw
        case rel => exact ⟨k + 1, q, ao, cp, by go_num, rfl, by omega, by rw [HSN.out]; exact HQ, by rw [HSN.out]; exact HO, HB⟩
        case measure => simp [intOf]; omega
    · have hke : k = n := by omega
      subst hke
      go_wp2_with fail
      go_ret
      have hps : (es.take k).filter (inR fr to) = ps := by rw [List.take_of_length_le (by rw [HLEN.out]; exact Nat.le_refl _), HPS.out]
      have hq := HQ.out
      have ho := HO.out
      rw [hps] at hq ho
      subst hq
      exact ⟨ao, cp, rfl, own_more ho (by rw [HXS.out]; omega), HXB.out.trans (HB.out.mono (by rw [HXS.out]; omega))⟩

/-- It returns a log with these entries in a row of its own, and a number. -/
def RetLog (w : World) (ix tm : Int) (c : Cf) (us : List En) (code : Int) (e : Ending) (w' : World) : Prop :=
  ∃ ao cap, e = .returned (.tuple #[.agg #[.int .i64 ix, .int .i64 tm, .slice c.v.a c.v.len c.v.cap, .slice c.l.a c.l.len c.l.cap, .slice ao us.length cap], .int .i64 code]) ∧ w'.ownsRow w.heap.size 32 4 (.slice ao us.length cap) us.length (us.flatMap En.cells) ∧ Below w.heap.size w w'

def boxes (w : World) (ix tm : Int) (c : Cf) (a : Option Addr) (n cap : Nat) : World := (w.alloc (.cells #[.int .i64 ix, .int .i64 tm, .slice c.v.a c.v.len c.v.cap, .slice c.l.a c.l.len c.l.cap, .slice a n cap] 53)).alloc (.cells #[.int .i64 0, .int .i64 0, .slice none 0 0, .slice none 0 0, .slice none 0 0] 53)
theorem boxes_is {w X : World} {ix tm : Int} {c : Cf} {a : Option Addr} {n cap : Nat} (hX : X = boxes w ix tm c a n cap) : Below w.heap.size w X ∧ X.heap.size = w.heap.size + 2 ∧ ∀ Z, Below X.heap.size X Z → Z.heap[w.heap.size]? = some (.cells #[.int .i64 ix, .int .i64 tm, .slice c.v.a c.v.len c.v.cap, .slice c.l.a c.l.len c.l.cap, .slice a n cap] 53 (0, 0)) ∧ Z.heap[w.heap.size + 1]? = some (.cells #[.int .i64 0, .int .i64 0, .slice none 0 0, .slice none 0 0, .slice none 0 0] 53 (0, 0)) := by
  have hs : X.heap.size = w.heap.size + 2 := by rw [hX]; unfold boxes; rw [World.size_alloc, World.size_alloc]
  refine ⟨hX ▸ below_alloc (below_alloc (Below.refl _ _) _) _, hs, fun Z hZ => ⟨(hZ.block _ (by omega)).trans ?_, (hZ.block _ (by omega)).trans ?_⟩⟩
  · rw [hX]
    exact alloc_far (heap_alloc_new w _) (by rw [World.size_alloc]; omega)
  · rw [hX]
    exact alloc_new1 w _ _

/-- a log stored whole -/
def put5 (w : World) (B : Nat) (c0 c1 c2 c3 c4 : Value) : World := (((((w.setCell ⟨B, 0, none⟩ c0).setCell ⟨B, 1, none⟩ c1).setCell ⟨B, 2, none⟩ c2).setCell ⟨B, 3, none⟩ c3).setCell ⟨B, 4, none⟩ c4)
theorem put5_block {w : World} {B : Nat} {T : TypeId} {c0 c1 c2 c3 c4 z0 z1 z2 z3 z4 : Value} (h : w.heap[B]? = some (.cells #[z0, z1, z2, z3, z4] T (0, 0))) : (put5 w B c0 c1 c2 c3 c4).heap[B]? = some (.cells #[c0, c1, c2, c3, c4] T (0, 0)) :=
  set_block (i := 4) (set_block (i := 3) (set_block (i := 2) (set_block (i := 1) (set_block (i := 0) h _) _) _) _) _
theorem put5_touch {S : List Nat} {v w : World} {B : Nat} {c0 c1 c2 c3 c4 : Value} (h : Touch S v w) (hB : B ∈ S) : Touch S v (put5 w B c0 c1 c2 c3 c4) := touch_set (touch_set (touch_set (touch_set (touch_set h _ _ _ hB) _ _ _ hB) _ _ _ hB) _ _ _ hB) _ _ _ hB

set_option maxRecDepth 100000 in
set_option maxHeartbeats 6400000 in
theorem rcutFrom_any (ix tm : Int) (c : Cf) (a : Option Addr) (n cap : Nat) (es : List En) (i : Int) (w : World) (h : EnR w es a n) (hn : n ≤ 1099511627776) (hix : ix < i) (hx0 : 0 ≤ ix) (hi : i ≤ 9223372036854775807) :
    Calls Try.prog 26 #[.agg #[.int .i64 ix, .int .i64 tm, .slice c.v.a c.v.len c.v.cap, .slice c.l.a c.l.len c.l.cap, .slice a n cap], .int .i64 i] w (RetLog w ix tm c (es.filter (inR 0 (i - 1))) 0) := by
  obtain ⟨X, hX⟩ : ∃ X, X = boxes w ix tm c a n cap := ⟨_, rfl⟩
  obtain ⟨hXb, hXs, hXc⟩ := boxes_is hX
  have hp := rpart_any ix tm c a n cap es 0 (i - 1) X (h.below hXb) hn
  have hle : ¬ i ≤ ix := by omega
  have hw1 : IntKind.i64.wrap (i - 1) = i - 1 := by rw [IntKind.wrap_i64] <;> omega
  unfold RetLog
  obtain ⟨us, hus⟩ : ∃ us, us = es.filter (inR 0 (i - 1)) := ⟨_, rfl⟩
  rw [← hus] at hp ⊢
  have HP := Lib.hid hp
  have HXB := Lib.hid hXb
  have HXS := Lib.hid hXs
  have HXC := Lib.hid hXc
  have HX := Lib.hid hX
  clear h hp hXb hXs hXc hX hus
  go_enter Try.func26, Try.ntmps26
  go_wp2_with fail
  have hx := HX.out
  unfold boxes at hx
  rw [← hx]
  clear hx
  refine HP.out.mono ?_
  rintro e w2 ⟨ao, cq, rfl, hown, hb2⟩
  obtain ⟨hc1, hc2⟩ := HXC.out _ hb2
  obtain ⟨⟨b0, b1, b2, b3, b4⟩, f0, f1, f2, f3, f4⟩ := five_cells hc1
  obtain ⟨⟨d0, d1, d2, d3, d4⟩, g0, g1, g2, g3, g4⟩ := five_cells hc2
  have HO := Lib.hid hown
  have HB2 := Lib.hid hb2
  have HC2 := Lib.hid hc2
  clear hown hb2 hc1 hc2
  go_wp2_with fail
  have ht : Touch [w.heap.size, w.heap.size + 1] w2 (put5 (w2.setCell ⟨w.heap.size, 4, none⟩ (.slice ao us.length cq)) (w.heap.size + 1) (.int .i64 ix) (.int .i64 tm) (.slice c.v.a c.v.len c.v.cap) (.slice c.l.a c.l.len c.l.cap) (.slice ao us.length cq)) :=
    put5_touch (touch_set (Touch.refl _ _) _ _ _ (by simp)) (by simp)
  have hxs := HXS.out
  have hown2 := own_keep HO.out fun g hg hl => ht.block g hl (by have := (HO.out.lt g hg).1; simp; omega)
  have hbz : Below w.heap.size w _ := ht.below (below_then HXB.out HB2.out) (by have := HB2.out.size; omega) (fun k hk => by simp at hk; omega)
  exact bodyPost_ret (results_cell_tmp Try.results26 rfl (load_rlog (put5_block (set_far HC2.out (by omega))))) rfl ⟨ao, cq, rfl, own_more hown2 (by omega), hbz⟩

set_option maxRecDepth 100000 in
set_option maxHeartbeats 6400000 in
theorem rcutFrom_no (ix tm : Int) (c : Cf) (a : Option Addr) (n cap : Nat) (i : Int) (w : World) (hix : i ≤ ix) :
    Calls Try.prog 26 #[.agg #[.int .i64 ix, .int .i64 tm, .slice c.v.a c.v.len c.v.cap, .slice c.l.a c.l.len c.l.cap, .slice a n cap], .int .i64 i] w (RetBox w (.tuple #[.agg #[.int .i64 ix, .int .i64 tm, .slice c.v.a c.v.len c.v.cap, .slice c.l.a c.l.len c.l.cap, .slice a n cap], .int .i64 1])) := by
  go_enter Try.func26, Try.ntmps26
  go_wp2_with fail
  exact bodyPost_ret (results_cell_tmp Try.results26 rfl (load_rlog (alloc_new1 w _ _))) rfl ⟨rfl, below_alloc (below_alloc (Below.refl _ _) _) _⟩

/-- the end of entries that follow a base -/
theorem filter_all {p : En → Bool} {l : List En} (h : ∀ e ∈ l, p e = true) : l.filter p = l := List.filter_eq_self.2 h
theorem filter_none {p : En → Bool} {l : List En} (h : ∀ e ∈ l, p e = false) : l.filter p = [] := List.filter_eq_nil_iff.2 (fun e he => by rw [h e he]; simp)
theorem mem_take_ix {ix tm : Int} {es : List En} (hs : Sound ix tm es) {d : Nat} {e : En} (h : e ∈ es.take d) : ix < e.ix ∧ e.ix ≤ ix + d := by
  obtain ⟨k, hk⟩ := List.getElem?_of_mem h
  rw [List.getElem?_take] at hk
  split at hk
  · have := hs.idx k e hk; omega
  · cases hk
theorem mem_drop_ix {ix tm : Int} {es : List En} (hs : Sound ix tm es) {d : Nat} {e : En} (h : e ∈ es.drop d) : ix + d < e.ix ∧ e.ix ≤ ix + es.length := by
  obtain ⟨k, hk⟩ := List.getElem?_of_mem h
  have hl : k < (es.drop d).length := (List.getElem?_eq_some_iff.1 hk).1
  rw [List.length_drop] at hl
  rw [List.getElem?_drop] at hk
  have := hs.idx _ e hk
  omega
theorem part_low {ix tm : Int} {es : List En} (hs : Sound ix tm es) (i : Int) (hi : ix < i) : es.filter (inR 0 (i - 1)) = es.take (i - ix - 1).toNat := by
  have hx := hs.rx
  conv => lhs; rw [← List.take_append_drop (i - ix - 1).toNat es]
  rw [List.filter_append, filter_all, filter_none, List.append_nil]
  · intro e he
    have := mem_drop_ix hs he
    simp only [inR, Bool.and_eq_false_iff, decide_eq_false_iff_not]
    omega
  · intro e he
    have := mem_take_ix hs he
    simp only [inR, Bool.and_eq_true, decide_eq_true_iff]
    omega
theorem part_high {ix tm : Int} {es : List En} (hs : Sound ix tm es) (fr last : Int) (hl : last = ix + es.length) : es.filter (inR fr last) = es.drop (fr - ix - 1).toNat := by
  conv => lhs; rw [← List.take_append_drop (fr - ix - 1).toNat es]
  rw [List.filter_append, filter_none, filter_all, List.nil_append]
  · intro e he
    have := mem_drop_ix hs he
    simp only [inR, Bool.and_eq_true, decide_eq_true_iff]
    omega
  · intro e he
    have := mem_take_ix hs he
    simp only [inR, Bool.and_eq_false_iff, decide_eq_false_iff_not]
    by_cases hc : (fr - ix - 1).toNat = 0
    · rw [hc] at he
      simp at he
    · omega
theorem entries_part (ix : Int) (es : List En) (fr most : Int) : entriesOf ix es fr most = (es.drop (fr - ix - 1).toNat).take (if most < 0 then 0 else most).toNat := by
  unfold entriesOf
  simp only
  have hd : (max fr (ix + 1) - ix - 1).toNat = (fr - ix - 1).toNat := by omega
  by_cases hm : most ≤ 0
  · rw [if_pos (.inr (.inr hm)), show (if most < 0 then 0 else most).toNat = 0 from by split <;> omega, List.take_zero]
  · have hm2 : (if most < 0 then 0 else most) = most := if_neg (by omega)
    rw [hm2]
    by_cases hc : es = [] ∨ ix + es.length < max fr (ix + 1)
    · rw [if_pos (by rcases hc with h | h; exact .inl h; exact .inr (.inl h)), List.drop_of_length_le, List.take_nil]
      rcases hc with h | h
      · rw [h]; simp
      · omega
    · rw [if_neg (by intro h; rcases h with h | h | h; exact hc (.inl h); exact hc (.inr h); omega), hd]

set_option maxRecDepth 100000 in
set_option maxHeartbeats 6400000 in
theorem rfrom_any (ix tm : Int) (c : Cf) (a : Option Addr) (n cap : Nat) (es : List En) (fr most : Int) (w : World) (h : EnR w es a n) (hs : Sound ix tm es) (hn : n ≤ 1099511627776) :
    Calls Try.prog 42 #[.agg #[.int .i64 ix, .int .i64 tm, .slice c.v.a c.v.len c.v.cap, .slice c.l.a c.l.len c.l.cap, .slice a n cap], .int .i64 fr, .int .i64 most] w (RetRow w (entriesOf ix es fr most)) := by
  have hX := below_alloc (Below.refl w.heap.size w) (.cells #[.int .i64 ix, .int .i64 tm, .slice c.v.a c.v.len c.v.cap, .slice c.l.a c.l.len c.l.cap, .slice a n cap] 53)
  have hla := rlast_any ix tm c a n cap es _ (h.below hX) (by omega)
  have hls := hs.last
  have hp := fun Z (hZ : Below w.heap.size w Z) => rpart_any ix tm c a n cap es fr (lastOf ix tm es).1 Z (h.below hZ) hn
  rw [part_high hs fr _ hls] at hp
  rw [entries_part]
  have hxc := five_at (w := w) (B := w.heap.size) rfl rfl (T := 53) (c0 := .int .i64 ix) (c1 := .int .i64 tm) (c2 := .slice c.v.a c.v.len c.v.cap) (c3 := .slice c.l.a c.l.len c.l.cap) (c4 := .slice a n cap)
  obtain ⟨p, hpp⟩ : ∃ p, p = lastOf ix tm es := ⟨_, rfl⟩
  rw [← hpp] at hla hp
  obtain ⟨li, lt⟩ := p
  simp only at hla hp
  obtain ⟨us, hus⟩ : ∃ us, us = es.drop (fr - ix - 1).toNat := ⟨_, rfl⟩
  rw [← hus] at hp ⊢
  have hul : us.length ≤ 1099511627776 := by rw [hus, List.length_drop, h.len]; omega
  have HLA := Lib.hid hla
  have HP := Lib.hid hp
  have HX := Lib.hid hX
  have HXC := Lib.hid hxc
  clear hla hp hX hxc h hs hls hpp hus
  unfold RetRow
  have hrow : ∀ (Z : World) (ao : Option Addr) (cq k : Nat), w.heap.size ≤ Z.heap.size → (∃ B, w.heap.size ≤ B ∧ Z.ownsRow B 32 4 (.slice ao us.length cq) us.length (us.flatMap En.cells)) → k ≤ us.length → Z.ownsRow w.heap.size 32 4 (.slice ao k cq) (us.take k).length ((us.take k).flatMap En.cells) := fun Z ao cq k _ ho hk => by
    obtain ⟨B, hB, ho⟩ := ho
    have h1 := own_more (own_cut ho k hk) hB
    rw [List.length_take, Nat.min_eq_left hk]
    exact h1
  have HROW := Lib.hid hrow
  clear hrow
  by_cases hm : most < 0
  · rw [if_pos hm]
    go_enter Try.func42, Try.ntmps42
    go_wp2_with fail
    refine HLA.out.mono ?_
    rintro e w2 ⟨rfl, hb2⟩
    obtain ⟨⟨b0, b1, b2, b3, b4⟩, _⟩ := five_cells (HXC.out _ hb2)
    have HB2 := Lib.hid (below_then HX.out hb2)
    clear hb2
    go_wp2_with fail
    refine (HP.out _ HB2.out).mono ?_
    rintro e w3 ⟨ao, cq, rfl, hown, hb3⟩
    have HO := Lib.hid hown
    have HB3 := Lib.hid hb3
    have hcq := (own_cap hown).1
    clear hown hb3
    by_cases hlen : 0 < us.length
    · have hlen' : (0 : Int) < (us.length : Int) := by omega
      go_wp2_with fail
      go_ret
      exact ⟨ao, cq, by rfl, HROW.out w3 ao cq 0 (below_then HB2.out HB3.out).size ⟨_, HB2.out.size, HO.out⟩ (by omega), below_then HB2.out HB3.out⟩
    · have hl0 : us.length = 0 := by omega
      have hlen' : ¬ (0 : Int) < (us.length : Int) := by omega
      go_wp2_with fail
      go_ret
      exact ⟨ao, cq, by simp_all, HROW.out w3 ao cq 0 (below_then HB2.out HB3.out).size ⟨_, HB2.out.size, HO.out⟩ (by omega), below_then HB2.out HB3.out⟩
  · rw [if_neg hm]
    obtain ⟨k, rfl⟩ : ∃ k : Nat, most = (k : Int) := ⟨most.toNat, by omega⟩
    rw [Int.toNat_natCast]
    go_enter Try.func42, Try.ntmps42
    go_wp2_with fail
    refine HLA.out.mono ?_
    rintro e w2 ⟨rfl, hb2⟩
    obtain ⟨⟨b0, b1, b2, b3, b4⟩, _⟩ := five_cells (HXC.out _ hb2)
    have HB2 := Lib.hid (below_then HX.out hb2)
    clear hb2
    go_wp2_with fail
    refine (HP.out _ HB2.out).mono ?_
    rintro e w3 ⟨ao, cq, rfl, hown, hb3⟩
    have HO := Lib.hid hown
    have HB3 := Lib.hid hb3
    have hcq := (own_cap hown).1
    clear hown hb3
    by_cases hlen : k < us.length
    · have hlen' : (k : Int) < (us.length : Int) := by omega
      have hkc : (k : Int) ≤ (cq : Int) := by omega
      have hk0 : (0 : Int) ≤ (k : Int) := by omega
      go_wp2_with fail
      go_ret
      exact ⟨ao, cq, by rw [List.length_take, Nat.min_eq_left (by omega)]; rfl, by rw [List.length_take, Nat.min_eq_left (by omega)]; have := HROW.out w3 ao cq k (below_then HB2.out HB3.out).size ⟨_, HB2.out.size, HO.out⟩ (by omega); rw [List.length_take, Nat.min_eq_left (by omega)] at this; exact this, below_then HB2.out HB3.out⟩
    · have hlen' : ¬ (k : Int) < (us.length : Int) := by omega
      go_wp2_with fail
      go_ret
      exact ⟨ao, cq, by rw [List.take_of_length_le (by omega)]; rfl, by rw [List.take_of_length_le (by omega)]; exact own_more HO.out HB2.out.size, below_then HB2.out HB3.out⟩
end Go.Proofs.Ytpaommkjafdghaa
