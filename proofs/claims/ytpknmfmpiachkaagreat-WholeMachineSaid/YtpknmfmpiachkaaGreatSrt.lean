/- slices.Sorted(slices.Values(s)) of int64. -/
import Derived.RangeFuncNested
import Derived.RangeFuncBound
import Derived.RangeFuncCalls
import Derived.RangeFuncLeaves
import Derived.RangeFuncBox
import Derived.Shelf.Abstract
import Derived.WalkKit
import Derived.OwnWalkIn
import Derived.TacticsInMore
import Derived.LoopNIn
import Derived.LoopIn
import Derived.Maps.AppendAt
import Derived.Shelf.SortM.Plain
import Derived.Shelf.SortM.SortNone
import Derived.Sort.OwnSortedInts
import Derived.Test.YtpknmfmpiachkaaGreatLayI
import Derived.Test.YtpknmfmpiachkaaGreatCert1
namespace Go.Proofs.YtpknmfmpiachkaaGreat
open Go.RowKit Go.Shelf Go.Sort
attribute [local go_sem] Oper.semAt_some
theorem vals_at {W : World} {a : Option Addr} {len : Nat} {zs : List Int} (h : RowN W a 1 len (zs.map (Value.int .i64))) {k : Nat} {x : Int} (hk : zs[k]? = some x) : ∃ b off, a = some ⟨b, off, none⟩ ∧ W.cell? ⟨b, off + k, none⟩ = some (.int .i64 x) := by
 have hkl := (List.getElem?_eq_some_iff.1 hk).1
 have hl := h.1
 rw [List.length_map] at hl
 obtain ⟨b, off, ha, hc⟩ := h.2 (by omega)
 exact ⟨b, off, ha, hc k _ (by rw [List.getElem?_map, hk]; rfl)⟩
set_option maxRecDepth 100000 in
set_option maxHeartbeats 2000000 in
theorem values1_in (F : Fence) (n : Nat) (hf : F.fn 72) (hro : F.round = none) (hn : 1 ≤ n) (l Bs n₀ : Nat) (a : Option Addr) (len cap : Nat) (zs : List Int) (hlen : zs.length = len) (hbig : len ≤ 2000000000000) (hb : ∀ b off, a = some ⟨b, off, none⟩ → 0 < len → b < n₀) (J Jx : List Int → World → Prop)
 (hY : ∀ pre x W, J pre W → pre.length < len → YieldAt F (n - 1) Tryz.prog l #[.int .i64 x] W fun e W' =>
  (e = .returned (.bool true) ∧ J (pre ++ [x]) W' ∧ Below n₀ W W') ∨ (e = .returned (.bool false) ∧ Jx (pre ++ [x]) W'))
 (W : World) (hBs : W.cell? ⟨Bs, 0, none⟩ = some (.slice a len cap)) (hc : RowN W a 1 len (zs.map (Value.int .i64))) (h0 : J [] W) :
 CallsIn F n Tryz.prog 72 #[.func (.yield l) #[] #[], .pointer (some ⟨Bs, 0, none⟩)] W fun e W' => (∃ v, e = .returned v) ∧
  ((∃ ys, ys = zs ∧ J ys W') ∨ (∃ pre, pre <+: zs ∧ Jx pre W')) := by
 refine callsIn_of_wp Tryz.func72 rfl hf ?_ hro
 simp only [Tryz.ntmps72, List.size_toArray, List.length_cons, List.length_nil, Nat.reduceAdd, Nat.reduceSub, Array.replicate_succ, Array.replicate_zero, List.push_toArray, List.append_toArray, List.nil_append, List.cons_append]
 gi_wp2
 gi_loopw [7] (fun i wr => ∃ k : Nat, k ≤ len ∧ i = .int .i64 k ∧ J (zs.take k) wr ∧ Below n₀ W wr)
  (fun i _ => len - (intOf i).toNat)
 case atStart => exact ⟨0, Nat.zero_le _, rfl, h0, Below.refl _ _⟩
 case round =>
  obtain ⟨k, hk, rfl, hJs, hnx⟩ := hrel
  by_cases hlt : k < len
  · obtain ⟨x, hx⟩ : ∃ x, zs[k]? = some x := ⟨_, List.getElem?_eq_getElem (by omega)⟩
    obtain ⟨b, off, rfl, hcx⟩ := vals_at hc hx
    have hcx' : wr.cell? ⟨b, off + k, none⟩ = some (.int .i64 x) := (hnx.cell (p := ⟨b, off + k, none⟩) (hb b off rfl (by omega))).trans hcx
    have htk : zs.take (k + 1) = zs.take k ++ [x] := by rw [List.take_add_one, hx]; rfl
    obtain ⟨fn, tmps, assign, body, hy, hR⟩ := hY _ x wr hJs (by rw [List.length_take]; omega)
    gi_wp2
    refine hR.mono ?_
    rintro e W3 (⟨rfl, hJ3, hk3⟩ | ⟨rfl, hJx3⟩)
    · gi_wp2
      go_roundw
      case rel => exact ⟨k + 1, by omega, by go_num, by rw [htk]; exact hJ3, hnx.trans hk3⟩
      case measure => simp [intOf]; omega
    · gi_wp2
      refine bodyPost_ret (results_none rfl _ _ _) rfl ?_
      exact ⟨⟨_, rfl⟩, .inr ⟨_, List.take_prefix (k + 1) zs, by rw [htk]; exact hJx3⟩⟩
  · obtain rfl : k = len := by omega
    gi_wp2
    go_end0
    refine ⟨⟨_, rfl⟩, .inl ⟨_, rfl, ?_⟩⟩
    rw [List.take_of_length_le (by omega)] at hJs
    exact hJs
theorem values_in (F : Fence) (n : Nat) (hf : F.fn 33) (hro : F.round = none) (a : Option Addr) (len cap : Nat) (w : World) :
 CallsIn F n Tryz.prog 33 #[.slice a len cap] w fun e w' => e = .returned (.func (.func 72) #[] #[.pointer (some ⟨w.heap.size, 0, none⟩)]) ∧ w' = w.alloc (.cells #[.slice a len cap] 41) := by
 refine callsIn_of_wp Tryz.func33 rfl hf ?_ hro
 simp only [Tryz.ntmps33, List.size_toArray, List.length_cons, List.length_nil, Nat.reduceAdd, Nat.reduceSub, Array.replicate_succ, Array.replicate_zero, List.push_toArray, List.append_toArray, List.nil_append, List.cons_append]
 gi_wp2
 go_ret
 exact ⟨rfl, rfl⟩
theorem values_stops (F : Fence) (n : Nat) (hf : F.fn 72) (hro : F.round = none) (hn : 1 ≤ n) (Bs n₀ : Nat) (a : Option Addr) (len cap : Nat) (zs : List Int) (hlen : zs.length = len) (hbig : len ≤ 2000000000000) (w : World) (hb : ∀ b off, a = some ⟨b, off, none⟩ → 0 < len → b < n₀) (hBs : Bs < w.heap.size)
 (hc : w.cell? ⟨Bs, 0, none⟩ = some (.slice a len cap)) (hrow : RowN w a 1 len (zs.map (Value.int .i64))) :
 SeqStopsK F n Tryz.prog 72 #[.pointer (some ⟨Bs, 0, none⟩)] (fun x : Int => #[Value.int .i64 x]) (Below n₀) (fun ys => ys = zs) (fun pre => pre <+: zs) len w := fun l J Jx W hW _ _ hY h0 =>
 values1_in F n hf hro hn l Bs n₀ a len cap zs hlen hbig hb J Jx hY W ((hW.cell (p := ⟨Bs, 0, none⟩) hBs).trans hc) (hrow.below hW) h0
theorem info_i64 : (Tryz.prog.info? 2).map (fun i => (i.zero, i.size, i.bytes)) = some (some (.int .i64 0), 1, 8) := by kernel_rfl
set_option maxRecDepth 100000 in
set_option maxHeartbeats 4000000 in
theorem appendSeq_in (F : Fence) (n : Nat) (hf : F.fn 111) (hro : F.round = none) (hn : 3 ≤ n) (gf : Nat) (lb : Array Value) (hg : F.fn gf) (eg : ∀ args w, (callFunc gf args).run Tryz.prog w = .ok (.enter gf args) w) (zs : List Int) (hbig : zs.length ≤ 2000000000000) (w : World)
 (hseq : SeqStopsK F (n - 1) Tryz.prog gf lb (fun x : Int => #[Value.int .i64 x]) (Below w.heap.size) (fun ys => ys = zs) (fun pre => pre <+: zs) zs.length w) :
 CallsIn F n Tryz.prog 111 #[.slice none 0 0, .func (.func gf) #[] lb] w fun e W' => ∃ v, e = .returned v ∧ W'.ownsRow w.heap.size 2 1 v zs.length (zs.map (Value.int .i64)) ∧ Below w.heap.size w W' := by
 have h1 : 1 ≤ n := by omega
 obtain ⟨i0, hi, hz0, hz1, hz2⟩ := info_parts info_i64
 refine callsIn_of_wp_marks Tryz.func111 rfl hf ?_ hro
 simp only [Tryz.ntmps111, List.size_toArray, List.length_cons, List.length_nil, Nat.reduceAdd, Nat.reduceSub, Array.replicate_succ, Array.replicate_zero, List.push_toArray, List.append_toArray, List.nil_append, List.cons_append]
 gi_wp2
 have bO := Boxed.new w 41 (.slice none 0 0)
 have hB0 : Below w.heap.size w (w.alloc (.cells #[.slice none 0 0] 41)) := (Below.refl _ w).alloc (Nat.le_refl _) _
 refine wpIn_rangeFunc_ownG hro h1 (gf := gf) (lb := lb) rfl hg eg
  hseq belowK_t (belowK_b (by simp)) hB0 (fun _ => rfl)
  (fun pre W => (∃ v, Boxed W w.heap.size 41 v ∧ W.ownsRow w.heap.size 2 1 v pre.length (pre.map (Value.int .i64)) ∧ True) ∧ Below w.heap.size w W)
  (fun _ _ _ => False)
  (OwnFrom.and (Own.from (holdsRow_own w.heap.size w.heap.size 41 2 1 (fun pre : List Int => pre.length) (fun pre => pre.map (Value.int .i64)) (fun _ _ => True)) _) (ownFrom_below (Nat.le_refl _) (by simp)))
  (fun _ _ _ _ _ hs _ _ => hs)
  ⟨⟨_, bO, World.ownsRow_nil _ _ _ _, trivial⟩, hB0⟩
  (fun x => { tmps := #[.slice none 0 0, .func (.func gf) #[] lb, .pointer (some ⟨w.heap.size, 0, none⟩), undef, .slice none 0 0, .int .i64 x, .func (.func gf) #[] lb, .int .i64 x, undef, undef, undef, undef, undef], defers := [] }) ?assign ?body ?done ?stop
 case assign =>
  intro l x W K hK
  gi_wp2
  exact hK
 case body =>
  rintro l pre x W ⟨⟨v, hv, hrow, _⟩, hB⟩ hlt
  have hc := hv.cell
  gi_wp2_with (gi_at_builtin; refine wpListIn_append_own _ rfl _ _ 41 rfl w.heap.size 2 i0 (.int .i64 0) 1 8 Tryz.underlying41 hi hz0 hz1 hz2 rfl (by decide) _ _ _ rfl (hrow.alloc _) ⟨W.heap.size, 0, none⟩ 1 1 [.int .i64 x] rfl rfl (cell_one_new _ _ _) (by simp [Value.oneCell']) (by simp [maxLen]; omega) (by omega) (by have := hB.size; simp; omega) ?_; intro v' w1 hown' hgrow _; obtain ⟨g', cap', rfl⟩ := ownsRow_succ hown'; obtain ⟨hv1, hv2, hr2, hk2, hb2⟩ := hv.appended (by decide) hrow hB.size (Nat.le_refl _) hown' hgrow; have hc1 := hv1.cell; have hf1 := hv1.frozen)
  exact ⟨hk2.from _, hb2, ⟨_, hv2, by simpa using hr2, trivial⟩, hB.trans hb2⟩
 case done =>
  rintro D ys W hD rfl ⟨⟨v, hv, hrow, _⟩, hB⟩ hK
  have hc := hv.cell
  gi_wp2
  refine ⟨by simp, .inl ⟨_, _, rfl, run_takeDeferred hK, ?_⟩⟩
  exact ⟨_, results_tmp rfl _ _ _, v, rfl, ownsRow_putObj hrow _ hK rfl, hB.trans (belowK_b (w := w) (Nat.le_refl _) W D _ _ (by simp at hD; omega) hK rfl rfl)⟩
 case stop =>
  rintro D c pre W _ _ h _
  exact h.elim
set_option maxRecDepth 100000 in
set_option maxHeartbeats 4000000 in
theorem collect_in (F : Fence) (n : Nat) (hf : F.fn 70) (hf2 : F.fn 111) (hro : F.round = none) (hn : 4 ≤ n) (gf : Nat) (lb : Array Value) (hg : F.fn gf) (eg : ∀ args w, (callFunc gf args).run Tryz.prog w = .ok (.enter gf args) w) (zs : List Int) (hbig : zs.length ≤ 2000000000000) (w : World)
 (hseq : SeqStopsK F (n - 1 - 1) Tryz.prog gf lb (fun x : Int => #[Value.int .i64 x]) (Below w.heap.size) (fun ys => ys = zs) (fun pre => pre <+: zs) zs.length w) :
 CallsIn F n Tryz.prog 70 #[.func (.func gf) #[] lb] w fun e W' => ∃ v, e = .returned v ∧ W'.ownsRow w.heap.size 2 1 v zs.length (zs.map (Value.int .i64)) ∧ Below w.heap.size w W' := by
 have hap := appendSeq_in F (n - 1) hf2 hro (by omega) gf lb hg eg zs hbig w hseq
 have h1 : 1 ≤ n := by omega
 refine callsIn_of_wp Tryz.func70 rfl hf ?_ hro
 simp only [Tryz.ntmps70, List.size_toArray, List.length_cons, List.length_nil, Nat.reduceAdd, Nat.reduceSub, Array.replicate_succ, Array.replicate_zero, List.push_toArray, List.append_toArray, List.nil_append, List.cons_append]
 gi_wp2_with (gi_at_call 111; refine hap.mono ?_; rintro e w' ⟨v, rfl, hrow, hb⟩)
 go_ret
 exact ⟨v, rfl, hrow, hb⟩
set_option maxRecDepth 100000 in
set_option maxHeartbeats 4000000 in
theorem sorted_any (Bs : Nat) (a : Option Addr) (len cap : Nat) (zs : List Int) (hlen : zs.length = len) (hbig : len ≤ 2000000000000) (w : World) (hc : w.cell? ⟨Bs, 0, none⟩ = some (.slice a len cap)) (hBs : Bs < w.heap.size) (hrow : RowN w a 1 len (zs.map (Value.int .i64))) :
 Calls Tryz.prog 32 #[.func (.func 72) #[] #[.pointer (some ⟨Bs, 0, none⟩)]] w fun e w' => ∃ v, e = .returned v ∧ w'.ownsRow w.heap.size 2 1 v zs.length ((zs.mergeSort fun x y => decide (x ≤ y)).map (Value.int .i64)) ∧ Below w.heap.size w w' := by
 subst hlen
 refine (callsIn_wide (n := 8)).1 ?_
 have hseq := values_stops Fence.wide 5 trivial rfl (by omega) Bs w.heap.size a zs.length cap zs rfl hbig w (fun b off e hn => hrow.lt (by decide) b off e hn) hBs hc hrow
 have hco := collect_in Fence.wide 7 trivial trivial rfl (by omega) 72 #[.pointer (some ⟨Bs, 0, none⟩)] trivial (enters_of Tryz.func72 (by kernel_rfl) rfl) zs (by omega) w hseq
 have hso : ∀ (blk off cap : Nat) (ys : List Int) (W : World), Holds (Value.int .i64) W blk off ys.toArray → blk < W.heap.size → ys.length < 4611686018427387904 → Calls Tryz.prog 71 #[.slice (some ⟨blk, off, none⟩) ys.length cap] W fun e w' => e = .returned (.tuple #[]) ∧ ∃ n os, w' = grow (putRow (Value.int .i64) (Sort.ahead W n) blk off (ys.mergeSort fun x y => decide (x ≤ y)).toArray) os := fun blk off cap ys W h1 h2 h3 => AnyM.slices_Sort_int Tryz.sortI64 blk off cap ys W h1 h2 h3
 have hs0 : ∀ (p : Option Addr) (cap : Nat) (W : World), Calls Tryz.prog 71 #[.slice p 0 cap] W fun e w' => e = .returned (.tuple #[]) ∧ w' = W := fun p cap W => AnyM.slices_Sort_int_none Tryz.sortI64 p cap W
 have HCO := Lib.hid ((callsIn_wide (n := 7)).1 hco)
 have HSO := Lib.hid hso
 have HS0 := Lib.hid hs0
 have HRW := Lib.hid hrow
 clear hseq hco hso hs0 hrow hc hBs
 refine callsIn_of_wp Tryz.func32 rfl trivial ?_ rfl
 simp only [Tryz.ntmps32, List.size_toArray, List.length_cons, List.length_nil, Nat.reduceAdd, Nat.reduceSub, Array.replicate_succ, Array.replicate_zero, List.push_toArray, List.append_toArray, List.nil_append, List.cons_append]
 refine wpIn_wide.2 ?_
 go_wp2_with fail
 refine HCO.out.mono ?_
 rintro e w1 ⟨v, rfl, hown, hb⟩
 have hcase := hown.2
 have HOWN := Lib.hid hown
 have HB1 := Lib.hid hb
 clear hown hb
 rcases hcase with ⟨rfl, h0⟩ | ⟨g, cap1, cur, rfl, hg, hgb, hn1, hn2, hn3, hn4⟩
 · have HZ := Lib.hid h0
   clear h0
   go_wp2_with fail
   refine (HS0.out _ _ _).mono ?_
   rintro e w2 ⟨rfl, rfl⟩
   go_wp2_with fail
   go_ret
   have hz : zs = [] := List.eq_nil_of_length_eq_zero HZ.out
   subst hz
   exact ⟨.slice none 0 0, rfl, by rw [show ([] : List Int).mergeSort (fun x y => decide (x ≤ y)) = [] by simp]; exact HOWN.out, HB1.out⟩
 · have hH : Holds (Value.int .i64) w1 g 0 zs.toArray := holds_of_blockI hgb (by simpa using hn4)
   have HH := Lib.hid hH
   have HGB := Lib.hid hgb
   have HN := Lib.hid (And.intro hg (And.intro hn1 (And.intro hn2 (And.intro hn3 hn4))))
   clear hH hgb hg hn1 hn2 hn3 hn4
   go_wp2_with fail
   refine (HSO.out g 0 cap1 zs w1 HH.out (Array.getElem?_eq_some_iff.1 HGB.out).1 (by omega)).mono ?_
   rintro e w2 ⟨rfl, n, os, hw2⟩
   have hlm : (zs.mergeSort fun x y => decide (x ≤ y)).length = zs.length := List.length_mergeSort ..
   have h2 := ownsRow_sortedI (n := n) (os := os) hlm HN.out.1 HGB.out HN.out.2.1 HN.out.2.2.1 HN.out.2.2.2.1
   have h3 := grownBy_sortedI (w := w1) (g := g) (n := n) (os := os) (zs.mergeSort fun x y => decide (x ≤ y)).toArray
   rw [← hw2] at h2 h3
   have HO := Lib.hid h2
   have HB : Hid (Below w.heap.size w w2) := HB1.out.grown h3 HB1.out.size (fun k e => by have := HN.out.1; injection e with e; omega)
   clear h2 h3 hw2 hlm HH HGB HN
   go_wp2_with fail
   go_ret
   exact ⟨_, rfl, HO.out, HB.out⟩
end Go.Proofs.YtpknmfmpiachkaaGreat
