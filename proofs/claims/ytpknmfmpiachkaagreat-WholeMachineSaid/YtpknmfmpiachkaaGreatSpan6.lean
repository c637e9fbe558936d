/- Spans sorted. -/
import Derived.Test.YtpknmfmpiachkaaGreatLay
import Derived.Test.YtpknmfmpiachkaaGreatSpan5
namespace Go.Proofs.YtpknmfmpiachkaaGreat
open Go.RowKit Go.Sort Go.Shelf
structure GoodS (s : Spn) : Prop where
 ok : s.ok
 nlo : Flo.nan s.lo = false
 nhi : Flo.nan s.hi = false
 clo : Flo.canon s.lo = s.lo
 chi : Flo.canon s.hi = s.hi
 le : Flo.code s.lo ≤ Flo.code s.hi
 lop : s.lop = false
 hop : s.hop = false
theorem Flo.flt_false (a b : Nat) (ha : Flo.nan a = false) (hb : Flo.nan b = false) : Flo.flt a b = false ↔ Flo.code b ≤ Flo.code a := by
 unfold Flo.flt
 rw [ha, hb]
 simp
theorem GoodS.canon {s : Spn} (h : GoodS s) : canonS s = s := by
 obtain ⟨lo, hi, lop, hop⟩ := s
 obtain ⟨ok, nlo, nhi, clo, chi, le, hl, hh⟩ := h
 simp only at *
 subst hl hh
 have hf := (Flo.flt_false hi lo nhi nlo).2 le
 unfold canonS badS rightS loS hiS
 simp [nlo, nhi, clo, chi, hf]
theorem good_canon {s : Spn} (hs : s.ok) (h : (canonS s).lop = false) : GoodS (canonS s) := by
 unfold canonS at h ⊢
 cases hb : badS s with
 | true => simp [hb, noneS] at h
 | false =>
   (try rw [hb] at h ⊢)
   simp only [Bool.false_eq_true, if_false] at h ⊢
   cases hf : Flo.flt (hiS s) (loS s) with
   | true => simp [hf, noneS] at h
   | false =>
     (try rw [hf] at h ⊢)
     simp only [Bool.false_eq_true, if_false] at h ⊢
     unfold badS rightS at hb
     simp only [Bool.or_eq_false_iff, Bool.not_eq_false', Bool.and_eq_true, Bool.not_eq_true'] at hb
     obtain ⟨⟨⟨n1, n2⟩, h3⟩, h4⟩ := hb
     have m1 : Flo.nan (loS s) = false := by
      unfold loS
      split
      · exact Flo.next_num _ (Flo.canon_lt _ hs.1) (by rw [Flo.nan_canon]; exact n1)
      · rw [Flo.nan_canon]; exact n1
     have m2 : Flo.nan (hiS s) = false := by
      unfold hiS
      split
      · rename_i hp
        refine Flo.prev_num _ (Flo.canon_lt _ hs.2) (by rw [Flo.nan_canon]; exact n2) (fun e => ?_)
        rw [hp] at h4
        have c1 : Flo.code s.hi = 4503599627370495 := by rw [← Flo.code_canon, e]; decide
        have c2 : Flo.code s.lo ≤ Flo.code s.hi := (Flo.flt_false _ _ n2 n1).1 h3
        have c3 : 4503599627370495 ≤ Flo.code s.lo := by
         by_cases hi : s.lo = 18442240474082181120
         · rw [hi]; decide
         · have := Flo.gt_negInf s.lo hs.1 n1 hi; omega
        have c4 : Flo.feq s.lo s.hi = true := by
         unfold Flo.feq
         rw [n1, n2]
         simp; omega
        rw [c4] at h4
        simp at h4
      · rw [Flo.nan_canon]; exact n2
     refine ⟨⟨loS_lt s hs, hiS_lt s hs⟩, m1, m2, ?_, ?_, (Flo.flt_false _ _ m2 m1).1 hf, rfl, rfl⟩
     · show Flo.canon (loS s) = loS s
       unfold loS
       split
       · exact Flo.canon_next _ (Flo.canon_canon _)
       · exact Flo.canon_canon _
     · show Flo.canon (hiS s) = hiS s
       unfold hiS
       split
       · exact Flo.canon_prev _
       · exact Flo.canon_canon _
theorem cmpS_good {a b : Spn} (ha : GoodS a) (hb : GoodS b) : cmpS a b = cmpO (Flo.cmp a.lo b.lo) (Flo.cmp a.hi b.hi) := by
 unfold cmpS
 rw [ha.canon, hb.canon, ha.lop, hb.lop]
 rfl
theorem cmpS_lt {a b : Spn} (ha : GoodS a) (hb : GoodS b) : cmpS a b < 0 ↔ (Flo.code a.lo < Flo.code b.lo ∨ (Flo.code a.lo = Flo.code b.lo ∧ Flo.code a.hi < Flo.code b.hi)) := by
 rw [cmpS_good ha hb]
 unfold cmpO Flo.cmp Flo.cmpN
 repeat' split
 all_goals omega
theorem good_eq {a b : Spn} (ha : GoodS a) (hb : GoodS b) (h1 : Flo.code a.lo = Flo.code b.lo) (h2 : Flo.code a.hi = Flo.code b.hi) : a = b := by
 obtain ⟨lo, hi, lop, hop⟩ := a
 obtain ⟨lo', hi', lop', hop'⟩ := b
 have e1 := Flo.code_inj lo lo' ha.ok.1 hb.ok.1 h1 ha.clo hb.clo
 have e2 := Flo.code_inj hi hi' ha.ok.2 hb.ok.2 h2 ha.chi hb.chi
 have e3 := ha.lop.trans hb.lop.symm
 have e4 := ha.hop.trans hb.hop.symm
 simp only at e1 e2 e3 e4
 rw [e1, e2, e3, e4]
abbrev GS : Type := { s : Spn // GoodS s }
instance : Inhabited GS := ⟨⟨⟨0, 0, false, false⟩, ⟨by decide, by decide⟩, by decide, by decide, by decide, by decide, by decide, rfl, rfl⟩⟩
def encG (s : GS) : List Value := s.1.cells
def cfG (a b : GS) : Int := cmpS a.1 b.1
theorem ltG (a b : GS) : ltOf cfG a b = decide (Flo.code a.1.lo < Flo.code b.1.lo ∨ (Flo.code a.1.lo = Flo.code b.1.lo ∧ Flo.code a.1.hi < Flo.code b.1.hi)) := by
 unfold ltOf cfG
 rw [decide_eq_decide]
 exact cmpS_lt a.2 b.2
theorem swoG : SWO (ltOf cfG) where
 irrefl x := by rw [ltG]; simp
 trans x y z h1 h2 := by rw [ltG] at *; simp only [decide_eq_true_eq] at *; omega
 ntrans x y z h1 h2 := by rw [ltG] at *; simp only [decide_eq_false_iff_not] at *; omega
theorem totG (x y : GS) (h1 : ltOf cfG x y = false) (h2 : ltOf cfG y x = false) : x = y := by
 rw [ltG] at *
 simp only [decide_eq_false_iff_not] at *
 exact Subtype.ext (good_eq x.2 y.2 (by omega) (by omega))
theorem Bel.grow {w w' : World} (h : Bel w w') : ∃ q os, w' = Go.Sort.grow (w.drewN q) os := by
 obtain ⟨⟨h1, h2, h3, h4, h5⟩, h6⟩ := h
 refine ⟨w'.drawn - w.drawn, w'.heap.extract w.heap.size w'.heap.size, ?_⟩
 obtain ⟨heap, tape, drawn, os, output⟩ := w
 obtain ⟨heap', tape', drawn', os', output'⟩ := w'
 simp only at h1 h2 h3 h4 h5 h6
 subst h1 h2 h3
 unfold Go.Sort.grow World.drewN
 simp only [World.mk.injEq, and_true, true_and]
 refine ⟨?_, by omega⟩
 apply Array.ext_getElem?
 intro k
 rw [Array.getElem?_append]
 split
 · rename_i hk; exact h5 k hk
 · rename_i hk
   rw [Array.getElem?_extract]
   rw [show min heap'.size heap'.size - heap.size = heap'.size - heap.size by omega, show heap.size + (k - heap.size) = k by omega]
   split
   · rfl
   · rw [Array.getElem?_eq_none (by omega)]
theorem cmpLaysG (blk off size : Nat) (w : World) : CmpLays Tryz.prog 98 #[] encG 4 cfG blk off size w := fun _ _ _ _ x y =>
 (cmpB_any x.1 y.1 x.2.ok y.2.ok _).mono fun _ _ h => ⟨h.1, h.2.grow⟩
theorem flat_at {α : Type} [Inhabited α] (enc : α → List Value) (k : Nat) (hk : ∀ x, (enc x).length = k) (h0 : 0 < k) : ∀ (l : List α) (t : Nat), t < l.length * k → (l.flatMap enc)[t]? = (enc l[t / k]!)[t % k]?
 | [], t, h => by simp at h
 | x :: r, t, h => by
   rw [List.flatMap_cons]
   by_cases ht : t < k
   · rw [List.getElem?_append_left (by rw [hk]; exact ht), Nat.div_eq_of_lt ht, Nat.mod_eq_of_lt ht]
     rfl
   · rw [List.getElem?_append_right (by rw [hk]; omega), hk, flat_at enc k hk h0 r (t - k) (by
      rw [List.length_cons, Nat.succ_mul] at h; omega)]
     obtain ⟨q, rfl⟩ : ∃ q, t = q + k := ⟨t - k, by omega⟩
     rw [Nat.add_sub_cancel, Nat.add_div_right q h0, Nat.add_mod_right]
     rfl
theorem flatK_list {α : Type} [Inhabited α] (enc : α → List Value) (k : Nat) (hk : ∀ x, (enc x).length = k) (h0 : 0 < k) (d : Array α) : (flatK enc k d).toList = d.toList.flatMap enc := by
 have hl : (d.toList.flatMap enc).length = d.size * k := by
  rw [List.length_flatMap]
  have : d.toList.map (fun a => (enc a).length) = List.replicate d.size k := by
   apply List.ext_getElem?
   intro i
   rw [List.getElem?_map, List.getElem?_replicate]
   by_cases hi : i < d.size
   · rw [if_pos hi, List.getElem?_eq_getElem (by simpa using hi)]
     simp [hk]
   · rw [if_neg hi, List.getElem?_eq_none (by simpa using Nat.le_of_not_lt hi)]
     rfl
  rw [this, List.sum_replicate_nat]
 apply List.ext_getElem?
 intro t
 by_cases ht : t < d.size * k
 · rw [flat_at enc k hk h0 d.toList t (by simpa using ht)]
   have h1 : (flatK enc k d).toList[t]? = (flatK enc k d)[t]? := by rw [Array.getElem?_toList]
   have h2 : (flatK enc k d)[t]? = some (flatK enc k d)[t]! := by
    rw [Array.getElem?_eq_getElem (by simpa using ht)]
    rw [getElem!_pos _ t (by simpa using ht)]
   rw [h1, h2, get_flatK enc k d t ht]
   have h3 : t % k < (enc d[t / k]!).length := by rw [hk]; exact Nat.mod_lt _ h0
   have hq : t / k < d.size := Nat.div_lt_of_lt_mul (by rw [Nat.mul_comm]; exact ht)
   have h4 : d.toList[t / k]! = d[t / k]! := by
    rw [getElem!_pos d.toList (t / k) (by simpa using hq), getElem!_pos d (t / k) hq]
    simp
   rw [h4, List.getElem?_eq_getElem h3, getElem!_pos (enc d[t / k]!) (t % k) h3]
 · rw [List.getElem?_eq_none (by simpa using Nat.le_of_not_lt ht), List.getElem?_eq_none (by rw [hl]; omega)]
theorem put_take (F c : Array Value) (h : F.size ≤ c.size) : (putCells id 0 F c).size = c.size ∧ (putCells id 0 F c).toList.take F.size = F.toList := by
 refine ⟨by simp [putCells], ?_⟩
 apply List.ext_getElem?
 intro k
 rw [List.getElem?_take]
 by_cases hk : k < F.size
 · rw [if_pos hk, Array.getElem?_toList, Array.getElem?_toList]
   unfold putCells
   rw [Array.getElem?_mapIdx, Array.getElem?_eq_getElem (show k < c.size by omega), Array.getElem?_eq_getElem hk]
   simp [hk]
 · rw [if_neg hk, List.getElem?_eq_none (by simpa using Nat.le_of_not_lt hk)]
theorem sorted_own {α : Type} [Inhabited α] (enc : α → List Value) (k : Nat) (hk : ∀ x, (enc x).length = k) (h0 : 0 < k) {w : World} {base g n cap e m : Nat} {xs : List Value} {os : Array Obj} (d : Array α) (hd : d.size = n)
 (h : w.ownsRow base e k (.slice (some ⟨g, 0, none⟩) n cap) n xs) : (grow (putRow id (Sort.ahead w m) g 0 (flatK enc k d)) os).ownsRow base e k (.slice (some ⟨g, 0, none⟩) n cap) n (d.toList.flatMap enc) ∧ Touch [g] w (grow (putRow id (Sort.ahead w m) g 0 (flatK enc k d)) os) := by
 obtain ⟨hl, hv | ⟨g', cp, cur, hv, hb, hg, h1, h2, h3, h4⟩⟩ := h
 · simp at hv
 simp only [Value.slice.injEq, Option.some.injEq, Addr.mk.injEq, and_true, true_and] at hv
 obtain ⟨rfl, rfl⟩ := hv
 have hlt := lt_of_block hg
 have hF : (flatK enc k d).size = n * k := by rw [size_flatK, hd]
 have hle : (flatK enc k d).size ≤ cur.size := by rw [hF, h3]; exact Nat.mul_le_mul_right k h1
 obtain ⟨p1, p2⟩ := put_take (flatK enc k d) cur hle
 refine ⟨⟨by rw [← flatK_list enc k hk h0, Array.length_toList, hF], .inr ⟨g, cap, putCells id 0 (flatK enc k d) cur, rfl, hb, ?_, h1, h2, by rw [p1, h3], by rw [← hF, p2, flatK_list enc k hk h0]⟩⟩, ?_⟩
 · show ((w.heap.modify g (onCells (putCells id 0 (flatK enc k d)))) ++ os)[g]? = _
   rw [Array.getElem?_append_left (by simpa using hlt), Array.getElem?_modify, if_pos rfl, hg]
   rfl
 · refine ⟨rfl, rfl, rfl, ?_, fun j hj hn => ?_⟩
   · show w.heap.size ≤ ((w.heap.modify g (onCells (putCells id 0 (flatK enc k d)))) ++ os).size
     simp
   · show ((w.heap.modify g (onCells (putCells id 0 (flatK enc k d)))) ++ os)[j]? = _
     rw [Array.getElem?_append_left (by simpa using hj), Array.getElem?_modify, if_neg (fun e => hn (by simp [e]))]
theorem holds_own {α : Type} [Inhabited α] (enc : α → List Value) (k : Nat) (hk : ∀ x, (enc x).length = k) (h0 : 0 < k) {w : World} {base g n cap e : Nat} (d : Array α) (hd : d.size = n)
 (h : w.ownsRow base e k (.slice (some ⟨g, 0, none⟩) n cap) n (d.toList.flatMap enc)) : HoldsK enc k w g 0 d := by
 intro j hj
 obtain ⟨b, off, hb, hc⟩ := (RowN.of_own h).2 (by
  rw [size_flatK] at hj
  rcases Nat.eq_zero_or_pos d.size with h1 | h1
  · rw [h1] at hj; omega
  · omega)
 simp only [Option.some.injEq, Addr.mk.injEq, and_true] at hb
 obtain ⟨rfl, rfl⟩ := hb
 refine ⟨hc j _ ?_, World.ownsRow.frozenAt h _⟩
 rw [← flatK_list enc k hk h0, Array.getElem?_toList, Array.getElem?_eq_getElem hj]
 rw [getElem!_pos _ j hj]
 rfl
def sortG (l : List Spn) : List Spn := l.mergeSort fun x y => !decide (cmpS y x < 0)
theorem subG : ∀ (l : List Spn), (∀ s ∈ l, GoodS s) → ∃ d : List GS, d.map Subtype.val = l
 | [], _ => ⟨[], rfl⟩
 | s :: r, h => by
   obtain ⟨d, hd⟩ := subG r fun x hx => h x (List.mem_cons_of_mem _ hx)
   exact ⟨⟨s, h s (List.mem_cons_self ..)⟩ :: d, by rw [List.map_cons, hd]⟩
theorem flatG (d : List GS) : d.flatMap encG = (d.map Subtype.val).flatMap Spn.cells := by
 induction d with
 | nil => rfl
 | cons x r ih => rw [List.flatMap_cons, List.map_cons, List.flatMap_cons, ih]; rfl
theorem sortG_val (d : List GS) : (d.mergeSort fun x y => !(ltOf cfG) y x).map Subtype.val = sortG (d.map Subtype.val) := by
 unfold sortG
 exact List.map_mergeSort fun a _ b _ => rfl
theorem isAggS (w : World) : (isAgg 101).run Tryz.prog w = .ok true w := by kernel_rfl
theorem sizeOfS (w : World) : (Go.sizeOf 101).run Tryz.prog w = .ok 4 w := by kernel_rfl
set_option maxHeartbeats 1600000 in
theorem sortS_any (l : List Spn) (hl : ∀ s ∈ l, GoodS s) (base : Nat) (a : Option Addr) (n cap : Nat) (w : World) (h : w.ownsRow base 101 4 (.slice a n cap) n (l.flatMap Spn.cells)) (hn : l.length = n) (hbig : n < 4611686018427387904) :
 Calls Tryz.prog 97 #[.slice a n cap, .func (.func 98) #[] #[]] w fun e w' => e = .returned (.tuple #[]) ∧
  w'.ownsRow base 101 4 (.slice a n cap) n ((sortG l).flatMap Spn.cells) ∧ ∀ B, B ≤ base → B ≤ w.heap.size → Below B w w' := by
 rcases h.2 with ⟨hv, h0⟩ | ⟨g, cp, cur, hv, hbg, _⟩
 · subst h0
   have hl0 : l = [] := List.eq_nil_of_length_eq_zero hn
   subst hl0
   have hS := AnyF.slices_SortFunc_none (P := Tryz.prog) (ρ := Tryz.sortSpan_ren) { Tryz.sortSpan with } a cap (.func (.func 98) #[] #[]) w
   refine hS.mono ?_
   rintro e w' ⟨rfl, rfl⟩
   exact ⟨rfl, by rw [show sortG [] = [] by simp [sortG]]; exact h, fun B _ _ => Below.refl _ _⟩
 · simp only [Value.slice.injEq, true_and] at hv
   obtain ⟨rfl, rfl⟩ := hv
   obtain ⟨d, rfl⟩ := subG l hl
   rw [← flatG] at h
   have hsz : d.toArray.size = n := by rw [List.size_toArray, ← hn, List.length_map]
   have eg : ∀ args w, (callFunc 98 args).run Tryz.prog w = .ok (.enter 98 args) w := enters_of Tryz.func98 (by kernel_rfl) rfl
   have hH : HoldsK encG 4 w g 0 d.toArray := holds_own encG 4 (fun _ => rfl) (by omega) d.toArray hsz h
   have hS := AnyQ.slices_SortFunc_total Tryz.sortSpan 4 isAggS sizeOfS encG (fun _ => rfl) (fun x v hv => by simp [encG, Spn.cells] at hv; rcases hv with rfl | rfl | rfl | rfl <;> rfl) cfG swoG 98 #[] g 0 cap d.toArray w eg (cmpLaysG g 0 d.toArray.size w) hH (h.lt g rfl).2 (by rw [hsz]; exact hbig) totG
   rw [hsz] at hS
   refine hS.mono ?_
   rintro e w' ⟨rfl, m, os, rfl⟩
   have hp : (d.toArray.toList.mergeSort fun x y => !(ltOf cfG) y x).toArray.size = n := by rw [List.size_toArray, List.length_mergeSort, ← hsz]; simp
   obtain ⟨k1, k2⟩ := sorted_own encG 4 (fun _ => rfl) (by omega) (m := m) (os := os) _ hp h
   refine ⟨rfl, ?_, fun B hB hBw => ⟨k2.os, k2.tape, k2.output, k2.size, fun j hj => k2.block j (by omega) (by simp; omega)⟩⟩
   have e1 : ((d.toArray.toList.mergeSort fun x y => !(ltOf cfG) y x).toArray.toList.flatMap encG) = (sortG (d.map Subtype.val)).flatMap Spn.cells := by
    rw [List.toList_toArray, List.toList_toArray, flatG, sortG_val]
   rw [e1] at k1
   exact k1
end Go.Proofs.YtpknmfmpiachkaaGreat
