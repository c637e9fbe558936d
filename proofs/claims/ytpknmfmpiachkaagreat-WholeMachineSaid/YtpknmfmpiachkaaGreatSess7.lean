/- The table of sessions: the walk of Put. -/
import Derived.Test.YtpknmfmpiachkaaGreatInsS
import Derived.Test.YtpknmfmpiachkaaGreatCert7
import Derived.Deep.CutBlock
import Derived.Deep.LoopGhost
import Derived.Test.YtpknmfmpiachkaaGreatCert11
import Derived.Maps.OwnSet
import Derived.Maps.OwnOps
import Derived.Test.YtpknmfmpiachkaaGreatTops
import Derived.Deep.RegionLaw
namespace Go.Proofs.YtpknmfmpiachkaaGreat
open Go.RowKit
def AllInt (xs : List Value) : Prop := ∀ u ∈ xs, ∃ c : Int, u = .int .i64 c
theorem AllInt.at {xs : List Value} (h : AllInt xs) {n k : Nat} (hl : xs.length = n * 3) (hk : k < n) : ∃ a b c : Int, xs[k * 3]? = some (.int .i64 a) ∧ xs[k * 3 + 1]? = some (.int .i64 b) ∧ xs[k * 3 + 2]? = some (.int .i64 c) := by
 have aux : ∀ i, i < xs.length → ∃ c : Int, xs[i]? = some (.int .i64 c) := fun i hi => by
  obtain ⟨c, hc⟩ := h _ (List.getElem_mem hi)
  exact ⟨c, by rw [List.getElem?_eq_getElem hi, hc]⟩
 obtain ⟨a, ha⟩ := aux (k * 3) (by omega)
 obtain ⟨b, hb⟩ := aux (k * 3 + 1) (by omega)
 obtain ⟨c, hc⟩ := aux (k * 3 + 2) (by omega)
 exact ⟨a, b, c, ha, hb, hc⟩
theorem AllInt.set {xs : List Value} (h : AllInt xs) (i : Nat) (c : Int) : AllInt (xs.set i (.int .i64 c)) := fun u hu => by
 rcases List.mem_or_eq_of_mem_set hu with hu | rfl
 · exact h u hu
 · exact ⟨c, rfl⟩
theorem AllInt.one {xs : List Value} (h : AllInt xs) : ∀ u ∈ xs, u.oneCell' = true := fun u hu => by
 obtain ⟨c, rfl⟩ := h u hu
 rfl
theorem own_set {w : World} {base g : Nat} {e : TypeId} {size n cap : Nat} {xs : List Value} (h : w.ownsRow base e size (.slice (some ⟨g, 0, none⟩) n cap) n xs) (j : Nat) (v : Value) : (w.setCell ⟨g, j, none⟩ v).ownsRow base e size (.slice (some ⟨g, 0, none⟩) n cap) n (xs.set j v) := by
 refine ⟨by rw [List.length_set]; exact h.1, ?_⟩
 rcases h.2 with ⟨h1, _⟩ | ⟨g', c', cur, h1, h2, h3, h4, h5, h6, h7⟩
 · cases h1
 · injection h1 with e1 _ e3
   injection e1 with e1
   injection e1 with e1
   subst e1 e3
   refine .inr ⟨g, cap, _, rfl, h2, set_block h3 v, h4, h5, by rw [Array.size_setIfInBounds]; exact h6, ?_⟩
   rw [Array.toList_setIfInBounds, List.take_set, h7]
theorem own_cellsN {w : World} {base g : Nat} {e : TypeId} {size n cap : Nat} {xs : List Value} (h : w.ownsRow base e size (.slice (some ⟨g, 0, none⟩) n cap) n xs) (j : Nat) (hj : j < cap * size) : (w.cell? ⟨g, j, none⟩).isSome = true ∧ w.frozen? ⟨g, j, none⟩ = false := by
 rcases h.2 with ⟨h1, _⟩ | ⟨g', c', cur, h1, _, h3, _, _, h6, _⟩
 · cases h1
 · injection h1 with e1 _ e3
   injection e1 with e1
   injection e1 with e1
   subst e1 e3
   refine ⟨?_, by simp [World.frozen?, h3]⟩
   simp only [World.cell?, h3]
   rw [Array.getElem?_eq_getElem (by omega)]
   rfl
theorem own_fewer {w : World} {base g : Nat} {e : TypeId} {size n cap : Nat} {xs : List Value} (h : w.ownsRow base e size (.slice (some ⟨g, 0, none⟩) n cap) n xs) (k : Nat) (hk : k ≤ n) : w.ownsRow base e size (.slice (some ⟨g, 0, none⟩) k cap) k (xs.take (k * size)) := by
 have hm := Nat.mul_le_mul_right size hk
 refine ⟨by rw [List.length_take, h.1]; omega, ?_⟩
 rcases h.2 with ⟨h1, _⟩ | ⟨g', c', cur, h1, h2, h3, h4, h5, h6, h7⟩
 · cases h1
 · injection h1 with e1 _ e3
   injection e1 with e1
   injection e1 with e1
   subst e1 e3
   exact .inr ⟨g, cap, cur, rfl, h2, h3, Nat.le_trans hk h4, h5, h6, by rw [← h7, List.take_take, Nat.min_eq_left hm]⟩
theorem own_setCells {base g : Nat} {e : TypeId} {size n cap : Nat} : ∀ (cs : List Value) (off : Nat) (w : World) (xs : List Value), w.ownsRow base e size (.slice (some ⟨g, 0, none⟩) n cap) n xs → n * size ≤ off → (w.setCells g off cs).ownsRow base e size (.slice (some ⟨g, 0, none⟩) n cap) n xs
 | [], _, _, _, h, _ => h
 | v :: r, off, w, xs, h, ho => by
   have h1 := own_set h off v
   rw [List.set_eq_of_length_le (by rw [h.1]; exact ho)] at h1
   exact own_setCells r (off + 1) _ xs h1 (by omega)
theorem run_clear_items (w : World) (ty : TypeId) (g o m c : Nat) (hm : 0 < m) (hc : ∀ j, j < m * 3 → (w.cell? ⟨g, o + j, none⟩).isSome = true) (hf : ∀ j, j < m * 3 → w.frozen? ⟨g, o + j, none⟩ = false) :
 (Builtin.clear_ #[155] ty #[.slice (some ⟨g, o, none⟩) m c]).run Tryz.prog w = .ok (.tuple #[]) (w.setCells g o (List.replicate (m * 3) (.int .i64 0))) := by
 have hv : ∀ w, (zeroValue 161).run Tryz.prog w = .ok (.agg #[.int .i64 0, .int .i64 0, .int .i64 0]) w := fun w => by kernel_rfl
 have hzc : (Builtin.zeroCells (Value.agg #[.int .i64 0, .int .i64 0, .int .i64 0]).cells m).toList = List.replicate (m * 3) (.int .i64 0) := by
  simp only [Builtin.zeroCells, Value.cells]
  apply List.ext_getElem
  · simp
  · intro i h1 h2
    have h3 : i % 3 = 0 ∨ i % 3 = 1 ∨ i % 3 = 2 := by omega
    rcases h3 with h3 | h3 | h3 <;> simp [h3]
 have hst := run_storeCells_cells (P := Tryz.prog) g o (List.replicate (m * 3) (.int .i64 0)) 0 w (by simpa using hc) (by simpa using hf) (by intro v hv'; rw [List.eq_of_mem_replicate hv']; rfl)
 simp only [Nat.add_zero] at hst
 obtain ⟨q, rfl⟩ : ∃ q, m = q + 1 := ⟨m - 1, by omega⟩
 simp [Builtin.clear_, run_underlying Tryz.underlying155, hv, hzc, hst]
set_option maxHeartbeats 800000 in
theorem snumber_any (n : Int) (hn : 1 ≤ n ∧ n ≤ 1099511627776) (w : World) : Calls Tryz.prog 84 #[.int .i64 n] w (RetEq w (.bool true)) := by
 obtain ⟨h1, h2⟩ := hn
 go_enter Tryz.func84, Tryz.ntmps84
 go_wp2_with fail
 go_ret
 exact ⟨rfl, rfl⟩
end Go.Proofs.YtpknmfmpiachkaaGreat
namespace Go.Proofs.YtpknmfmpiachkaaGreat
open Go.RowKit
structure It where
 seq : Int
 code : Int
 num : Int
def It.cells (v : It) : List Value := [.int .i64 v.seq, .int .i64 v.code, .int .i64 v.num]
def It.agg (v : It) : Value := .agg #[.int .i64 v.seq, .int .i64 v.code, .int .i64 v.num]
def num40 (n : Int) : Prop := 0 ≤ n ∧ n ≤ 1099511627776
theorem dropI (vs : List It) : ∀ i, (vs.flatMap It.cells).drop (i * 3) = (vs.drop i).flatMap It.cells := by
 induction vs with
 | nil => intro i; simp
 | cons x r ih =>
   intro i
   cases i with
   | zero => simp
   | succ i =>
     rw [List.drop_succ_cons, ← ih i, List.flatMap_cons, show (i + 1) * 3 = 3 + i * 3 by omega, ← List.drop_drop]
     congr 1
theorem takeI (vs : List It) : ∀ i, (vs.flatMap It.cells).take (i * 3) = (vs.take i).flatMap It.cells := by
 induction vs with
 | nil => intro i; simp
 | cons x r ih =>
   intro i
   cases i with
   | zero => simp
   | succ i =>
     rw [List.take_succ_cons, List.flatMap_cons, List.flatMap_cons, ← ih i, show (i + 1) * 3 = i * 3 + 1 + 1 + 1 by omega]
     rfl
theorem allIntI (vs : List It) : AllInt (vs.flatMap It.cells) := fun u hu => by
 obtain ⟨v, _, hu⟩ := List.mem_flatMap.1 hu
 simp only [It.cells, List.mem_cons, List.not_mem_nil, or_false] at hu
 rcases hu with rfl | rfl | rfl <;> exact ⟨_, rfl⟩
theorem it_at {w : World} {a : Option Addr} {n : Nat} {vs : List It} (hr : RowN w a 3 n (vs.flatMap It.cells)) (k : Nat) (hk : k < n) (v : It) (he : vs[k]? = some v) :
 ∃ b off, a = some ⟨b, off, none⟩ ∧ w.cell? ⟨b, off + k * 3, none⟩ = some (.int .i64 v.seq) ∧ w.cell? ⟨b, off + k * 3 + 1, none⟩ = some (.int .i64 v.code) ∧ w.cell? ⟨b, off + k * 3 + 2, none⟩ = some (.int .i64 v.num) := by
 obtain ⟨b, off, ha, hc⟩ := hr.2 (by omega)
 have hcell : ∀ i u, v.cells[i]? = some u → w.cell? ⟨b, off + k * 3 + i, none⟩ = some u := fun i u hu => by
  have h1 : ((vs.flatMap It.cells).drop (k * 3))[i]? = some u := by
   rw [dropI, drop_at he, List.flatMap_cons, List.getElem?_append_left (by have := (List.getElem?_eq_some_iff.1 hu).1; exact this)]
   exact hu
  rw [List.getElem?_drop] at h1
  rw [Nat.add_assoc]
  exact hc _ _ h1
 exact ⟨b, off, ha, hcell 0 _ rfl, hcell 1 _ rfl, hcell 2 _ rfl⟩
def Place (its : List It) (n : Int) (p : Nat) : Prop := p ≤ its.length ∧ ∀ (k : Nat) v, its[k]? = some v → (v.seq < n ↔ k < p)
theorem place_ex : ∀ (its : List It) (n : Int), its.Pairwise (fun a b => a.seq < b.seq) → ∃ p, Place its n p
 | [], n, _ => ⟨0, Nat.le_refl _, fun k v h => by simp at h⟩
 | x :: r, n, h => by
   rw [List.pairwise_cons] at h
   by_cases hx : x.seq < n
   · obtain ⟨p, hp, hq⟩ := place_ex r n h.2
     refine ⟨p + 1, by simp; omega, fun k v hk => ?_⟩
     cases k with
     | zero => simp at hk; subst hk; simp [hx]
     | succ k => rw [List.getElem?_cons_succ] at hk; rw [hq k v hk]; omega
   · refine ⟨0, Nat.zero_le _, fun k v hk => ?_⟩
     cases k with
     | zero => simp at hk; subst hk; simp [hx]
     | succ k =>
       rw [List.getElem?_cons_succ] at hk
       have := h.1 v (List.mem_of_getElem? hk)
       constructor
       · intro h2; omega
       · intro h2; omega
def Found (w : World) (its : List It) (n : Int) (e : Ending) (w' : World) : Prop := ∃ (p : Nat) (b : Bool), e = .returned (.tuple #[.int .i64 (p : Nat), .bool b]) ∧ Place its n p ∧ (b = true ↔ ∃ v, its[p]? = some v ∧ v.seq = n) ∧ Below w.heap.size w w'
def RetCmp (w : World) (x n : Int) (e : Ending) (w' : World) : Prop := ∃ c : Int, e = .returned (.int .i64 c) ∧ (c < 0 ↔ x < n) ∧ (c = 0 ↔ x = n) ∧ Below w.heap.size w w'
set_option maxHeartbeats 1600000 in
theorem findFn2_any (v : It) (hv : num40 v.seq) (n : Int) (hn : num40 n) (w : World) : Calls Tryz.prog 121 #[.agg #[.int .i64 v.seq, .int .i64 v.code, .int .i64 v.num], .int .i64 n] w (RetCmp w v.seq n) := by
 have hw : IntKind.i64.wrap (v.seq - n) = v.seq - n := by unfold num40 at hv hn; rw [IntKind.wrap_i64]; omega
 go_enter Tryz.func121, Tryz.ntmps121
 go_wp2_with fail
 go_ret
 refine ⟨_, rfl, ?_, ?_, below_alloc (Below.refl _ _) _⟩
 · omega
 · omega
set_option maxRecDepth 100000 in
set_option maxHeartbeats 4000000 in
theorem ssearch_any (n0 : Int) (hn0 : num40 n0) (its : List It) (hs : its.Pairwise (fun a b => a.seq < b.seq)) (hv : ∀ v ∈ its, num40 v.seq) (a : Option Addr) (n cap : Nat) (hl : its.length = n) (w : World) (hrow : RowN w a 3 n (its.flatMap It.cells)) (hn : n ≤ 1000000000000) :
 Calls Tryz.prog 120 #[.slice a n cap, .int .i64 n0, .func (.func 121) #[] #[]] w (Found w its n0) := by
 obtain ⟨p, hp⟩ := place_ex its n0 hs
 have hpn := hp.1
 rw [hl] at hpn
 have HP := Lib.hid hp
 have HROW := Lib.hid hrow
 have HL := Lib.hid hl
 have HV := Lib.hid hv
 clear hrow hl hv hs hp
 go_enter Tryz.func120, Tryz.ntmps120
 go_wp2_with fail
 go_loopw [9, 10] (fun s9 s10 wr => ∃ lo hi : Nat, s9 = .int .i64 lo ∧ s10 = .int .i64 hi ∧ lo ≤ p ∧ p ≤ hi ∧ hi ≤ n ∧ Hid (Below w.heap.size w wr)) (fun s9 s10 _ => (intOf s10).toNat - (intOf s9).toNat)
 case atStart => exact ⟨0, n, rfl, rfl, Nat.zero_le _, hpn, Nat.le_refl _, Below.refl _ _⟩
 case round =>
  obtain ⟨lo, hi, rfl, rfl, hlp, hph, hin, HB⟩ := hrel
  by_cases hlt : lo < hi
  · obtain ⟨v, hv⟩ : ∃ v, its[(lo + hi) / 2]? = some v := ⟨_, List.getElem?_eq_getElem (by rw [HL.out]; omega)⟩
    obtain ⟨b, off, rfl, e0, e1, e2⟩ := it_at (HROW.out.below HB.out) ((lo + hi) / 2) (by omega) v hv
    have HC := Lib.hid (findFn2_any v (HV.out v (List.mem_of_getElem? hv)) n0 hn0)
    have HT := Lib.hid (HP.out.2 _ v hv)
    clear hv
    go_wp2_with fail
    refine (HC.out _).mono ?_
    rintro e w1 ⟨c, rfl, hc1, hc2, hb1⟩
    have HB1 := Lib.hid (below_then HB.out hb1)
    have HCC := Lib.hid hc1
    clear hb1 HC hc1 hc2
    by_cases hyx : c < 0
    · have hq : (lo + hi) / 2 < p := HT.out.1 (HCC.out.1 hyx)
      go_wp2_with fail
      go_roundw
      case rel => exact ⟨(lo + hi) / 2 + 1, hi, by rw [show ((lo : Int) + (hi : Int)) / 2 + 1 = (((lo + hi) / 2 + 1 : Nat) : Int) by omega], rfl, by omega, hph, hin, HB1.out⟩
      case measure => simp [intOf]; omega
    · have hq : ¬ (lo + hi) / 2 < p := fun h => hyx (HCC.out.2 (HT.out.2 h))
      go_wp2_with fail
      go_roundw
      case rel => exact ⟨lo, (lo + hi) / 2, rfl, by rw [show ((lo : Int) + (hi : Int)) / 2 = (((lo + hi) / 2 : Nat) : Int) by omega], hlp, by omega, by omega, HB1.out⟩
      case measure => simp [intOf]; omega
  · obtain rfl : lo = p := by omega
    by_cases hnp : lo < n
    · obtain ⟨v, hv⟩ : ∃ v, its[lo]? = some v := ⟨_, List.getElem?_eq_getElem (by rw [HL.out]; exact hnp)⟩
      obtain ⟨b, off, rfl, e0, e1, e2⟩ := it_at (HROW.out.below HB.out) lo hnp v hv
      have HC := Lib.hid (findFn2_any v (HV.out v (List.mem_of_getElem? hv)) n0 hn0)
      have HVV := Lib.hid hv
      have hnat : ((lo : Int)).toNat = lo := by omega
      have h1 : (lo : Int) < (n : Int) := by omega
      have h0 : (0 : Int) ≤ (lo : Int) := by omega
      clear hv
      go_wp2_with fail
      refine (HC.out _).mono ?_
      rintro e w1 ⟨c, rfl, _, hc2, hb1⟩
      have HB1 := Lib.hid (below_then HB.out hb1)
      have HCC := Lib.hid hc2
      clear hb1 HC hc2
      go_wp2_with fail
      go_ret2
      refine ⟨lo, _, rfl, HP.out, ?_, HB1.out⟩
      rw [HVV.out]
      simp only [beq_iff_eq, Option.some.injEq, exists_eq_left']
      exact HCC.out
    · have h1 : ¬ (lo : Int) < (n : Int) := by omega
      have hnone : its[lo]? = none := List.getElem?_eq_none (by rw [HL.out]; omega)
      have HNO := Lib.hid hnone
      clear hnone
      go_wp2_with fail
      go_ret2
      exact ⟨lo, false, rfl, HP.out, ⟨(fun h => by cases h), (fun ⟨v, h, _⟩ => by rw [HNO.out] at h; cases h)⟩, HB.out⟩
def SessB (w : World) (B : Nat) (hi : Int) (a : Option Addr) (n cap : Nat) : Prop := w.heap[B]? = some (.cells #[.int .i64 hi, .slice a n cap] 157 (0, 0))
set_option maxRecDepth 100000 in
set_option maxHeartbeats 1600000 in
theorem find_any (B : Nat) (hi n0 : Int) (hn0 : num40 n0) (its : List It) (hs : its.Pairwise (fun a b => a.seq < b.seq)) (hv : ∀ v ∈ its, num40 v.seq) (a : Option Addr) (n cap : Nat) (hl : its.length = n) (w : World) (hB : SessB w B hi a n cap) (hrow : RowN w a 3 n (its.flatMap It.cells)) (hn : n ≤ 1000000000000) :
 Calls Tryz.prog 85 #[.pointer (some ⟨B, 0, none⟩), .int .i64 n0] w (Found w its n0) := by
 have HS := Lib.hid (ssearch_any n0 hn0 its hs hv a n cap hl w hrow hn)
 obtain ⟨c0, c1, _⟩ := two_cells hB
 clear hrow hB hs hv hl
 go_enter Tryz.func85, Tryz.ntmps85
 go_wp2_with fail
 refine HS.out.mono ?_
 rintro e w1 ⟨i, b, rfl, h1, h2, h3⟩
 have HF := Lib.hid (And.intro h1 (And.intro h2 h3))
 clear h1 h2 h3 HS
 go_wp2_with fail
 go_ret2
 exact ⟨i, b, rfl, HF.out⟩
def goneP (hi : Int) (v : It) : Bool := decide (v.seq ≤ hi - 8)
set_option maxRecDepth 100000 in
set_option maxHeartbeats 1600000 in
theorem sputFn_any (x : It) (hi : Int) (hhi : num40 hi) (PV B : Nat) (v : Value) (w : World) (hP : w.heap[PV]? = some (.cells #[.pointer (some ⟨B, 0, none⟩)] 154 (0, 0))) (hB : w.heap[B]? = some (.cells #[.int .i64 hi, v] 157 (0, 0))) :
 Calls Tryz.prog 88 #[.agg #[.int .i64 x.seq, .int .i64 x.code, .int .i64 x.num], .pointer (some ⟨PV, 0, none⟩)] w (RetBox w (.bool (goneP hi x))) := by
 obtain ⟨Y, hY⟩ : ∃ Y, Y = w.alloc (.cells #[.int .i64 x.seq, .int .i64 x.code, .int .i64 x.num] 161) := ⟨_, rfl⟩
 have hbY : Below w.heap.size w Y := hY ▸ below_alloc (Below.refl _ _) _
 have hYP : Y.heap[PV]? = some (.cells #[.pointer (some ⟨B, 0, none⟩)] 154 (0, 0)) := (hbY.block _ (lt_of_block hP)).trans hP
 have hYB : Y.heap[B]? = some (.cells #[.int .i64 hi, v] 157 (0, 0)) := (hbY.block _ (lt_of_block hB)).trans hB
 have p0 : Y.cell? ⟨PV, 0, none⟩ = some (.pointer (some ⟨B, 0, none⟩)) := by simp [World.cell?, hYP]
 have b0 : Y.cell? ⟨B, 0, none⟩ = some (.int .i64 hi) := by simp [World.cell?, hYB]
 have hY0 : Y.heap[w.heap.size]? = some (.cells #[.int .i64 x.seq, .int .i64 x.code, .int .i64 x.num] 161 (0, 0)) := hY ▸ heap_alloc_new w _
 have q0 : Y.cell? ⟨w.heap.size, 0, none⟩ = some (.int .i64 x.seq) := by simp only [World.cell?, hY0]; rfl
 have hw : IntKind.i64.wrap (hi - 8) = hi - 8 := by unfold num40 at hhi; rw [IntKind.wrap_i64]; omega
 have HY := Lib.hid hY
 have HBY := Lib.hid hbY
 clear hY hbY hYP hYB hP hB hY0
 go_enter Tryz.func88, Tryz.ntmps88
 go_upto_region 1 with fail
 rw [← HY.out]
 clear HY
 go_quiet (fail)
 go_wp2_with fail
 go_ret
 exact ⟨rfl, below_drewN HBY.out _⟩
def RetIdx (w : World) (its : List It) (p : It → Bool) (e : Ending) (w' : World) : Prop := ∃ i : Int, e = .returned (.int .i64 i) ∧ Below w.heap.size w w' ∧ ((i = -1 ∧ ∀ v ∈ its, p v = false) ∨ ∃ (k : Nat) (v : It), i = (k : Int) ∧ its[k]? = some v ∧ p v = true ∧ ∀ x ∈ its.take k, p x = false)
set_option maxRecDepth 100000 in
set_option maxHeartbeats 3200000 in
theorem sindex_any (hi : Int) (hhi : num40 hi) (PV B : Nat) (v : Value) (its : List It) (a : Option Addr) (n cap : Nat) (hl : its.length = n) (w : World) (hrow : RowN w a 3 n (its.flatMap It.cells)) (hn : n ≤ 1000000000000) (hP : w.heap[PV]? = some (.cells #[.pointer (some ⟨B, 0, none⟩)] 154 (0, 0))) (hB : w.heap[B]? = some (.cells #[.int .i64 hi, v] 157 (0, 0))) :
 Calls Tryz.prog 124 #[.slice a n cap, .func (.func 88) #[] #[.pointer (some ⟨PV, 0, none⟩)]] w (RetIdx w its (goneP hi)) := by
 have eg : ∀ args w, (callFunc 88 args).run Tryz.prog w = .ok (.enter 88 args) w := enters_of Tryz.func88 (by kernel_rfl) rfl
 have HROW := Lib.hid hrow
 have HL := Lib.hid hl
 have HF := Lib.hid (fun W (hb : Below w.heap.size w W) x => sputFn_any x hi hhi PV B v W ((hb.block _ (lt_of_block hP)).trans hP) ((hb.block _ (lt_of_block hB)).trans hB))
 clear hrow hl hP hB
 go_enter Tryz.func124, Tryz.ntmps124
 go_wp2_with fail
 go_loopg [8] n (fun g s8 wr => ∃ k : Nat, s8 = .int .i64 k ∧ k ≤ n ∧ g = n - k ∧ Hid (∀ x ∈ its.take k, goneP hi x = false) ∧ Hid (Below w.heap.size w wr))
 case atStart => exact ⟨0, rfl, Nat.zero_le _, rfl, (fun x hx => absurd hx List.not_mem_nil), Below.refl _ _⟩
 case round =>
  obtain ⟨k, rfl, hk, rfl, HN, HB⟩ := hrel
  have hk0 : (0 : Int) ≤ (k : Int) := by omega
  have hnat : ((k : Int)).toNat = k := by omega
  by_cases hlt : k < n
  · obtain ⟨x, hx⟩ : ∃ x, its[k]? = some x := ⟨_, List.getElem?_eq_getElem (by rw [HL.out]; exact hlt)⟩
    obtain ⟨b, off, rfl, e0, e1, e2⟩ := it_at (HROW.out.below HB.out) k hlt x hx
    have hkn : (k : Int) < (n : Int) := by omega
    have HC := Lib.hid (HF.out _ HB.out x)
    have HX := Lib.hid hx
    clear hx
    go_wp2_with fail
    refine HC.out.mono ?_
    rintro e w1 ⟨rfl, hb1⟩
    have HB1 := Lib.hid (below_then HB.out hb1)
    clear hb1 HC HB e0 e1 e2
    cases hr : goneP hi x with
    | true =>
      have HR := Lib.hid hr
      clear hr
      go_wp2_with fail
      go_ret
      exact ⟨_, rfl, HB1.out, .inr ⟨k, x, rfl, HX.out, HR.out, HN.out⟩⟩
    | false =>
      have HN2 : Hid (∀ y ∈ its.take (k + 1), goneP hi y = false) := fun y hy => by
       rw [List.take_add_one, HX.out] at hy
       rcases List.mem_append.1 hy with hy | hy
       · exact HN.out y hy
       · simp at hy; subst hy; exact hr
      clear hr
      go_wp2_with fail
      go_roundg (n - (k + 1))
      case measure => omega
      case rel => exact ⟨k + 1, by go_num, by omega, rfl, HN2, HB1.out⟩
  · obtain rfl : k = n := by omega
    go_wp2_with fail
    go_ret
    exact ⟨-1, rfl, HB.out, .inl ⟨rfl, by have := HN.out; rw [List.take_of_length_le (by rw [HL.out]; omega)] at this; exact this⟩⟩
end Go.Proofs.YtpknmfmpiachkaaGreat
namespace Go.Proofs.YtpknmfmpiachkaaGreat
open Go.RowKit
def DelPost (w : World) (base g cap : Nat) (its : List It) (e : Ending) (w' : World) : Prop :=
 ∃ k : Nat, e = .returned (.slice (some ⟨g, 0, none⟩) k cap) ∧ its.length = k ∧ w'.ownsRow base 161 3 (.slice (some ⟨g, 0, none⟩) k cap) k (its.flatMap It.cells) ∧ w.grownBy w' (some g)
theorem flatI_set : ∀ (L : List It) (i : Nat) (x : It), i < L.length → (((L.flatMap It.cells).set (i * 3) (.int .i64 x.seq)).set (i * 3 + 1) (.int .i64 x.code)).set (i * 3 + 2) (.int .i64 x.num) = (L.set i x).flatMap It.cells
 | [], i, x, h => by simp at h
 | y :: r, 0, x, _ => by simp [It.cells]
 | y :: r, i + 1, x, h => by
   have ih := flatI_set r i x (by simpa using h)
   rw [List.set_cons_succ, List.flatMap_cons, List.flatMap_cons, ← ih]
   have h3 : y.cells.length = 3 := rfl
   rw [List.set_append_right _ _ (by omega), List.set_append_right _ _ (by omega), List.set_append_right _ _ (by omega), h3, show (i + 1) * 3 - 3 = i * 3 by omega, show (i + 1) * 3 + 1 - 3 = i * 3 + 1 by omega, show (i + 1) * 3 + 2 - 3 = i * 3 + 2 by omega]
structure DelS (its L : List It) (p : It → Bool) (i j : Nat) : Prop where
 len : L.length = its.length
 kept : L.take i = (its.take j).filter fun v => !p v
 rest : L.drop j = its.drop j
 cnt : ((its.take j).filter fun v => !p v).length = i
theorem DelS.at {its L : List It} {p : It → Bool} {i j : Nat} (h : DelS its L p i j) (hj : j < its.length) : ∃ x, L[j]? = some x ∧ its[j]? = some x := by
 obtain ⟨x, hx⟩ : ∃ x, its[j]? = some x := ⟨_, List.getElem?_eq_getElem hj⟩
 refine ⟨x, ?_, hx⟩
 have h1 : (L.drop j)[0]? = (its.drop j)[0]? := by rw [h.rest]
 rw [List.getElem?_drop, List.getElem?_drop, Nat.add_zero, hx] at h1
 exact h1
theorem DelS.skip {its L : List It} {p : It → Bool} {i j : Nat} (h : DelS its L p i j) {x : It} (hx : its[j]? = some x) (hp : p x = true) : DelS its L p i (j + 1) := by
 have e : (its.take (j + 1)).filter (fun v => !p v) = (its.take j).filter fun v => !p v := by rw [List.take_add_one, hx, List.filter_append]; simp [hp]
 refine ⟨h.len, by rw [e]; exact h.kept, ?_, by rw [e]; exact h.cnt⟩
 rw [← List.drop_drop, h.rest, List.drop_drop]
theorem DelS.keep {its L : List It} {p : It → Bool} {i j : Nat} (h : DelS its L p i j) {x : It} (hx : its[j]? = some x) (hp : p x = false) (hij : i < j) (hj : j < its.length) : DelS its (L.set i x) p (i + 1) (j + 1) := by
 have e : (its.take (j + 1)).filter (fun v => !p v) = ((its.take j).filter fun v => !p v) ++ [x] := by rw [List.take_add_one, hx, List.filter_append]; simp [hp]
 have hl := h.len
 refine ⟨by rw [List.length_set]; exact h.len, ?_, ?_, by rw [e, List.length_append, h.cnt]; rfl⟩
 · rw [e, ← h.kept, List.take_add_one, List.take_set_of_le (Nat.le_refl _), List.getElem?_set_self (by omega)]
   rfl
 · rw [List.drop_set_of_lt (by omega), ← List.drop_drop, h.rest, List.drop_drop]
theorem DelS.start {its : List It} {p : It → Bool} {k : Nat} {x : It} (hx : its[k]? = some x) (hp : p x = true) (hk : ∀ y ∈ its.take k, p y = false) : DelS its its p k (k + 1) := by
 have e : (its.take (k + 1)).filter (fun v => !p v) = its.take k := by
  rw [List.take_add_one, hx, List.filter_append, List.filter_eq_self.2 fun y hy => by rw [hk y hy]; rfl]
  simp [hp]
 have hl := (List.getElem?_eq_some_iff.1 hx).1
 exact ⟨rfl, e.symm, rfl, by rw [e, List.length_take]; omega⟩
theorem setCells_grown (g : Nat) : ∀ (cs : List Value) (off : Nat) (w : World), w.grownBy (w.setCells g off cs) (some g)
 | [], _, _ => ⟨rfl, rfl, rfl, Nat.le_refl _, fun _ _ _ => rfl⟩
 | v :: r, off, w => (grown_set w g off v).trans (setCells_grown g r (off + 1) _)
theorem grown_then {w a b : World} {r : Option Nat} (h : w.grownBy a r) (hb : Below a.heap.size a b) : w.grownBy b r :=
 ⟨hb.os.trans h.os, hb.tape.trans h.tape, hb.output.trans h.output, Nat.le_trans h.size hb.size, fun k hk hn => (hb.block k (Nat.lt_of_lt_of_le hk h.size)).trans (h.block k hk hn)⟩
set_option maxRecDepth 100000 in
set_option maxHeartbeats 6400000 in
theorem sdel_any (hi : Int) (hhi : num40 hi) (PV B : Nat) (v : Value) (base g n cap : Nat) (its : List It) (hl : its.length = n) (w : World) (hown : w.ownsRow base 161 3 (.slice (some ⟨g, 0, none⟩) n cap) n (its.flatMap It.cells)) (hn : n ≤ 1000000) (hP : w.heap[PV]? = some (.cells #[.pointer (some ⟨B, 0, none⟩)] 154 (0, 0))) (hB : w.heap[B]? = some (.cells #[.int .i64 hi, v] 157 (0, 0))) (hgP : PV ≠ g) (hgB : B ≠ g) :
 Calls Tryz.prog 87 #[.slice (some ⟨g, 0, none⟩) n cap, .func (.func 88) #[] #[.pointer (some ⟨PV, 0, none⟩)]] w (DelPost w base g cap (its.filter fun v => !goneP hi v)) := by
 have eg : ∀ args w, (callFunc 88 args).run Tryz.prog w = .ok (.enter 88 args) w := enters_of Tryz.func88 (by kernel_rfl) rfl
 have hcp := own_cap hown
 have hnc := hcp.1
 have hcm := hcp.2.1
 unfold maxLen at hcm
 have HF := Lib.hid (fun W (hg : w.grownBy W (some g)) x => sputFn_any x hi hhi PV B v W ((hg.block _ (lt_of_block hP) (by simpa using hgP)).trans hP) ((hg.block _ (lt_of_block hB) (by simpa using hgB)).trans hB))
 have HI := Lib.hid (sindex_any hi hhi PV B v its (some ⟨g, 0, none⟩) n cap hl w (RowN.of_own hown) (by omega) hP hB)
 have HOWN := Lib.hid hown
 have HL := Lib.hid hl
 obtain ⟨R, hR⟩ : ∃ R, R = its.filter fun v => !goneP hi v := ⟨_, rfl⟩
 rw [← hR]
 have HR := Lib.hid hR
 clear hown hl hP hB hcp hR
 go_enter Tryz.func87, Tryz.ntmps87
 go_wp2_with fail
 refine HI.out.mono ?_
 rintro e w1 ⟨i, rfl, hb1, hcase⟩
 have hown1 := own_keep HOWN.out fun g' hg hl => hb1.block g' hl
 have HO1 := Lib.hid hown1
 have HG1 : Hid (w.grownBy w1 (some g)) := grown_then ⟨rfl, rfl, rfl, Nat.le_refl _, fun _ _ _ => rfl⟩ hb1
 clear hb1 hown1 HI
 rcases hcase with ⟨rfl, hall⟩ | ⟨i0, x0, rfl, hx0, hp0, hk0⟩
 · have HFIN : Hid (DelPost w base g cap R (.returned (.slice (some ⟨g, 0, none⟩) n cap)) w1) := by
    have e : R = its := by rw [HR.out, List.filter_eq_self.2 fun y hy => by rw [hall y hy]; rfl]
    rw [e]
    exact ⟨n, rfl, HL.out, HO1.out, HG1.out⟩
   clear hall
   go_wp2_with fail
   go_ret
   exact HFIN.out
 · have hi0n : i0 < n := by rw [← HL.out]; exact (List.getElem?_eq_some_iff.1 hx0).1
   have HD0 := Lib.hid (DelS.start hx0 hp0 hk0)
   have hne : ((i0 : Int) == -1) = false := by rw [beq_eq_false_iff_ne]; omega
   have hi9 : (i0 : Int) + 1 ≤ 9223372036854775807 := by omega
   clear hx0 hp0 hk0
   go_wp2_with fail
   go_loopg [5, 6] (n - (i0 + 1)) (fun γ s5 s6 wr => ∃ (i j : Nat), s5 = .int .i64 i ∧ s6 = .int .i64 j ∧ i < j ∧ j ≤ n ∧ γ = n - j ∧ Hid (∃ L, wr.ownsRow base 161 3 (.slice (some ⟨g, 0, none⟩) n cap) n (L.flatMap It.cells) ∧ DelS its L (goneP hi) i j) ∧ Hid (w.grownBy wr (some g)))
   case atStart => exact ⟨i0, i0 + 1, rfl, by go_num, by omega, by omega, rfl, ⟨its, HO1.out, HD0.out⟩, HG1.out⟩
   case round =>
    obtain ⟨i, j, rfl, rfl, hij, hj, rfl, HY, HG⟩ := hrel
    clear HO1 HG1 HD0 hne hi9
    have hj0 : (0 : Int) ≤ (j : Int) := by omega
    have hnat : ((j : Int)).toNat = j := by omega
    have hi0' : (0 : Int) ≤ (i : Int) := by omega
    have hnati : ((i : Int)).toNat = i := by omega
    by_cases hlt : j < n
    · obtain ⟨L, hys, hya⟩ := HY.out
      obtain ⟨x, hxL, hxi⟩ := hya.at (by rw [HL.out]; exact hlt)
      obtain ⟨b, off, hbo, e0, e1, e2⟩ := it_at (RowN.of_own hys) j hlt x hxL
      have HXI := Lib.hid hxi
      clear hxL hxi
      injection hbo with hbo
      injection hbo with hb0 ho0
      subst hb0 ho0
      rw [Nat.zero_add] at e0 e1 e2
      have hjn : (j : Int) < (n : Int) := by omega
      have hin : (i : Int) < (n : Int) := by omega
      obtain ⟨XB, hXB⟩ : ∃ XB, XB = wr.heap.size := ⟨_, rfl⟩
      obtain ⟨X, hX⟩ : ∃ X, X = wr.alloc (.cells #[.int .i64 x.seq, .int .i64 x.code, .int .i64 x.num] 161) := ⟨_, rfl⟩
      have hbX : Below wr.heap.size wr X := hX ▸ below_alloc (Below.refl _ _) _
      have HXB : Hid (X.heap[XB]? = some (.cells #[.int .i64 x.seq, .int .i64 x.code, .int .i64 x.num] 161 (0, 0))) := hXB ▸ hX ▸ heap_alloc_new wr _
      have HGX := Lib.hid (grown_then HG.out hbX)
      have HOX : Hid (X.ownsRow base 161 3 (.slice (some ⟨g, 0, none⟩) n cap) n (L.flatMap It.cells)) := own_keep hys fun g' _ hl => hbX.block g' hl
      have HYA := Lib.hid hya
      have HX' := Lib.hid hX
      have HXE := Lib.hid hXB
      have hgX : g ≠ XB := fun e => by have := (hys.lt g rfl).2; omega
      clear hbX hX hXB hys hya HY HG
      go_upto_region 8 with fail
      rw [← HX'.out, ← HXE.out]
      clear HX' HXE e0 e1 e2
      obtain ⟨q0, q1, q2⟩ := three_cells HXB.out
      have HC := Lib.hid (HF.out X HGX.out x)
      go_wp2_with fail
      refine HC.out.mono ?_
      rintro e w2 ⟨rfl, hb2⟩
      have HXB2 : Hid (w2.heap[XB]? = _) := (hb2.block _ (lt_of_block HXB.out)).trans HXB.out
      have HG2 := Lib.hid (grown_then HGX.out hb2)
      have HO2 : Hid (w2.ownsRow base 161 3 (.slice (some ⟨g, 0, none⟩) n cap) n (L.flatMap It.cells)) := own_keep HOX.out fun g' _ hl => hb2.block g' hl
      clear hb2 HC q0 q1 q2 HGX HOX HXB
      cases hr : goneP hi x with
      | true =>
        have HD2 := Lib.hid (HYA.out.skip HXI.out hr)
        clear hr
        go_wp2_with fail
        go_roundg (n - (j + 1))
        case measure => omega
        case rel => exact ⟨i, j + 1, rfl, by go_num, by omega, by omega, rfl, ⟨L, HO2.out, HD2.out⟩, HG2.out⟩
      | false =>
        have HD2 := Lib.hid (HYA.out.keep HXI.out hr hij (by rw [HL.out]; exact hlt))
        have hiL : i < L.length := by rw [HYA.out.len, HL.out]; omega
        clear hr
        obtain ⟨q0, q1, q2⟩ := three_cells HXB2.out
        have hi3 : i * 3 + 2 < cap * 3 := by omega
        obtain ⟨u0, k0⟩ := Option.isSome_iff_exists.1 (own_cellsN HO2.out (i * 3) (by omega)).1
        obtain ⟨u1, k1⟩ := Option.isSome_iff_exists.1 (own_cellsN HO2.out (i * 3 + 1) (by omega)).1
        obtain ⟨u2, k2⟩ := Option.isSome_iff_exists.1 (own_cellsN HO2.out (i * 3 + 2) (by omega)).1
        have f0 := (own_cellsN HO2.out (i * 3) (by omega)).2
        have f1 := (own_cellsN HO2.out (i * 3 + 1) (by omega)).2
        have f2 := (own_cellsN HO2.out (i * 3 + 2) (by omega)).2
        have HO3 : Hid ((((w2.setCell ⟨g, i * 3, none⟩ (.int .i64 x.seq)).setCell ⟨g, i * 3 + 1, none⟩ (.int .i64 x.code)).setCell ⟨g, i * 3 + 2, none⟩ (.int .i64 x.num)).ownsRow base 161 3 (.slice (some ⟨g, 0, none⟩) n cap) n ((L.set i x).flatMap It.cells)) := (flatI_set L i x hiL) ▸ own_set (own_set (own_set HO2.out (i * 3) (.int .i64 x.seq)) (i * 3 + 1) (.int .i64 x.code)) (i * 3 + 2) (.int .i64 x.num)
        have HG3 : Hid (w.grownBy (((w2.setCell ⟨g, i * 3, none⟩ (.int .i64 x.seq)).setCell ⟨g, i * 3 + 1, none⟩ (.int .i64 x.code)).setCell ⟨g, i * 3 + 2, none⟩ (.int .i64 x.num)) (some g)) := ((HG2.out.trans (grown_set _ g _ _)).trans (grown_set _ g _ _)).trans (grown_set _ g _ _)
        go_wp2_with fail
        go_roundg (n - (j + 1))
        case measure => omega
        case rel => exact ⟨i + 1, j + 1, by go_num, by go_num, by omega, by omega, rfl, ⟨_, HO3.out, HD2.out⟩, HG3.out⟩
    · obtain rfl : j = n := by omega
      obtain ⟨L, hys, hya⟩ := HY.out
      have hic : ¬ cap = i := by omega
      have hij' : (i : Int) ≤ (j : Int) := by omega
      have hicap : (i : Int) ≤ (cap : Int) := by omega
      have hcl : ∀ ty, (Builtin.clear_ #[155] ty #[.slice (some ⟨g, i * 3, none⟩) (j - i) (cap - i)]).run Tryz.prog wr = .ok (.tuple #[]) (wr.setCells g (i * 3) (List.replicate ((j - i) * 3) (.int .i64 0))) := fun ty =>
       run_clear_items wr ty g (i * 3) (j - i) (cap - i) (by omega) (fun k hk => (own_cellsN hys _ (by omega)).1) (fun k hk => (own_cellsN hys _ (by omega)).2)
      obtain ⟨w2, hw2⟩ : ∃ w2, w2 = wr.setCells g (i * 3) (List.replicate ((j - i) * 3) (.int .i64 0)) := ⟨_, rfl⟩
      rw [← hw2] at hcl
      have HFIN : Hid (DelPost w base g cap R (.returned (.slice (some ⟨g, 0, none⟩) i cap)) w2) := by
       have hk := hya.kept
       have hc := hya.cnt
       have htk : its.take j = its := List.take_of_length_le (by rw [HL.out]; exact Nat.le_refl _)
       rw [htk, ← HR.out] at hk hc
       have ho := own_fewer hys i (by omega)
       rw [takeI, hk] at ho
       exact ⟨i, rfl, hc, hw2 ▸ own_setCells _ _ _ _ ho (Nat.le_refl _), hw2 ▸ HG.out.trans (setCells_grown g _ _ _)⟩
      have mixed : Tryz.prog.follows .mixedOrders = true := by kernel_rfl
      have HCL := Lib.hid hcl
      clear hw2 hys hya HY HG hcl
      have hq := HCL.out
      go_wp2_with fail
      go_ret
      exact HFIN.out
end Go.Proofs.YtpknmfmpiachkaaGreat
namespace Go.Proofs.YtpknmfmpiachkaaGreat
open Go.RowKit Go.Maps
def ptrR (v : Value) : Option (DataW Unit × List MemPlace) := match v with
 | .pointer none => some (.lit (.int .i64 (-1)), [])
 | .pointer (some ⟨b, 0, none⟩) => some (.lit (.int .i64 (b : Nat)), [])
 | _ => none
theorem ptrR_inv {v : Value} {z : DataW Unit × List MemPlace} (h : ptrR v = some z) : (v = .pointer none ∧ z.1 = .lit (.int .i64 (-1))) ∨ ∃ b : Nat, v = .pointer (some ⟨b, 0, none⟩) ∧ z.1 = .lit (.int .i64 (b : Nat)) := by
 unfold ptrR at h
 split at h
 · cases h; exact .inl ⟨rfl, rfl⟩
 · cases h; exact .inr ⟨_, rfl, rfl⟩
 · cases h
theorem keyI : Keyed Tryz.prog 2 := int_keyed Tryz.underlying2
theorem keyI_of {n : Int} (h : -9223372036854775808 ≤ n ∧ n ≤ 9223372036854775807) : keyOf Tryz.prog 2 (.int .i64 n) = some (.int .i64 n) := keyOf_int_mk Tryz.underlying2 (WalkArith.wf_i64 h)
def codeB : Option Nat → Int
 | some b => (b : Nat)
 | none => -1
structure SV where
 hi : Int
 its : List It
structure SVOk (hi : Int) (its : List It) : Prop where
 sorted : its.Pairwise fun a b => a.seq < b.seq
 num : ∀ v ∈ its, num40 v.seq
 top : num40 hi
def ptrB : Option (Nat × SV) → Option Addr
 | some (B, _) => some ⟨B, 0, none⟩
 | none => none
def SessAt (w : World) (κ : Nat → Nat) (cnt i B : Nat) (s : SV) : Prop :=
 ∃ a n cap base, SessB w B s.hi a n cap ∧ κ B = i ∧ base ≤ w.heap.size ∧ w.ownsRow base 161 3 (.slice a n cap) n (s.its.flatMap It.cells) ∧ s.its.length = n ∧ n ≤ cnt ∧ SVOk s.hi s.its ∧ ∀ g, (Value.slice a n cap).ownBlock = some g → κ g = i + 1
theorem SessAt.chg {w w' : World} {κ κ' : Nat → Nat} {cnt i B : Nat} {s : SV} (h : SessAt w κ cnt i B s) {J : Nat → Prop} (hc : Chg J κ κ' w w') (h1 : ¬ J i) (h2 : ¬ J (i + 1)) : SessAt w' κ' cnt i B s := by
 obtain ⟨a, n, cap, base, hB, hk, hb, ho, hx, hn, hok, hg⟩ := h
 exact ⟨a, n, cap, base, (hc.block B (lt_of_block hB) (by rw [hk]; exact h1)).trans hB, (hc.paint B (lt_of_block hB)).trans hk, Nat.le_trans hb hc.size, own_keep ho fun g hgo hl => hc.block g hl (by rw [hg g hgo]; exact h2), hx, hn, hok, fun g hgo => (hc.paint g (ho.lt g hgo).2).trans (hg g hgo)⟩
theorem SessAt.mono {w : World} {κ : Nat → Nat} {cnt cnt' i B : Nat} {s : SV} (h : SessAt w κ cnt i B s) (hn : cnt ≤ cnt') : SessAt w κ cnt' i B s := by
 obtain ⟨a, n, cap, base, hB, hk, hb, ho, hx, hle, hok, hg⟩ := h
 exact ⟨a, n, cap, base, hB, hk, hb, ho, hx, Nat.le_trans hle hn, hok, hg⟩
structure TableAt (w : World) (κ : Nat → Nat) (T cnt M : Nat) (D : DataW Unit) (f : Int → Option (Nat × SV)) : Prop where
 var : w.heap[T]? = some (.cells #[.map (some M)] 144 (0, 0))
 colT : κ T = 40
 colM : κ M = 41
 map : w.ownsMap Tryz.prog 2 ptrR M cnt D
 at_ : ∀ id : Int, D.atKey (.int .i64 id) (.lit (.int .i64 (-1))) = .lit (.int .i64 (codeB ((f id).map Prod.fst)))
 sess : ∀ id B s, f id = some (B, s) → 1 ≤ id ∧ id ≤ 4 ∧ SessAt w κ cnt (40 + 2 * id.toNat) B s
theorem TableAt.chg {w w' : World} {κ κ' : Nat → Nat} {T cnt M : Nat} {D : DataW Unit} {f : Int → Option (Nat × SV)} (h : TableAt w κ T cnt M D f) {J : Nat → Prop} (hc : Chg J κ κ' w w') (hj : ∀ i, J i → i < 40 ∨ 49 < i) : TableAt w' κ' T cnt M D f := by
 have hn : ∀ i, 40 ≤ i → i ≤ 49 → ¬ J i := fun i h1 h2 h3 => by have := hj i h3; omega
 have hlt := h.map.lt
 obtain ⟨es, clock, hb, F, hs, hD⟩ := h.map
 refine ⟨(hc.block T (lt_of_block h.var) (by rw [h.colT]; exact hn _ (by omega) (by omega))).trans h.var, (hc.paint T (lt_of_block h.var)).trans h.colT, (hc.paint M hlt).trans h.colM, ⟨es, clock, (hc.block M hlt (by rw [h.colM]; exact hn _ (by omega) (by omega))).trans hb, F, hs, hD⟩, h.at_, fun id B s hf => ?_⟩
 obtain ⟨h1, h2, h3⟩ := h.sess id B s hf
 exact ⟨h1, h2, h3.chg hc (hn _ (by omega) (by omega)) (hn _ (by omega) (by omega))⟩
theorem TableAt.mono {w : World} {κ : Nat → Nat} {T cnt cnt' M : Nat} {D : DataW Unit} {f : Int → Option (Nat × SV)} (h : TableAt w κ T cnt M D f) (hn : cnt ≤ cnt') : TableAt w κ T cnt' M D f :=
 ⟨h.var, h.colT, h.colM, h.map.mono hn, h.at_, fun id B s hf => ⟨(h.sess id B s hf).1, (h.sess id B s hf).2.1, (h.sess id B s hf).2.2.mono hn⟩⟩
set_option maxRecDepth 100000 in
theorem TableAt.look {w : World} {κ : Nat → Nat} {T cnt M : Nat} {D : DataW Unit} {f : Int → Option (Nat × SV)} (h : TableAt w κ T cnt M D f) (id : Int) (hid : -9223372036854775808 ≤ id ∧ id ≤ 9223372036854775807) :
 (Instr.lookup 142 (.map (some M)) (.int .i64 id) false).run Tryz.prog w = .ok (.pointer (ptrB (f id))) w := by
 obtain ⟨v, ps, hrun, hv⟩ := h.map.lookup keyI Tryz.underlying142 (z := .pointer none) (by kernel_rfl) (zd := .lit (.int .i64 (-1))) (zp := []) rfl (keyI_of hid)
 rw [hrun]
 rw [h.at_ id] at hv
 rcases ptrR_inv hv with ⟨rfl, h2⟩ | ⟨b, rfl, h2⟩
 · cases hf : f id with
   | none => rfl
   | some q => rw [hf] at h2; simp only [Option.map_some, codeB, DataW.lit.injEq, Lit.int.injEq, true_and] at h2; omega
 · cases hf : f id with
   | none => rw [hf] at h2; simp only [Option.map_none, codeB, DataW.lit.injEq, Lit.int.injEq, true_and] at h2; omega
   | some q =>
     obtain ⟨B, sv⟩ := q
     rw [hf] at h2
     simp only [Option.map_some, codeB, DataW.lit.injEq, Lit.int.injEq, true_and] at h2
     obtain rfl : B = b := by omega
     rfl
set_option maxRecDepth 100000 in
set_option maxHeartbeats 1600000 in
theorem sessNew_any (κ : Nat → Nat) (w : World) : Calls Tryz.prog 38 #[] w fun e w' => ∃ T M κ', e = .returned (.pointer (some ⟨T, 0, none⟩)) ∧ Below w.heap.size w w' ∧ (∀ g, g < w.heap.size → κ' g = κ g) ∧ TableAt w' κ' T 0 M (.map []) (fun _ => none) := by
 have hmm := @run_makeMap Tryz.prog
 obtain ⟨W, hW⟩ : ∃ W, W = (w.alloc (.map #[] 0)).alloc (.cells #[.map (some w.heap.size)] 144) := ⟨_, rfl⟩
 have hb : Below w.heap.size w W := hW ▸ below_alloc (below_alloc (Below.refl _ _) _) _
 have hm : W.ownsMap (H := Unit) Tryz.prog 2 ptrR w.heap.size 0 (.map []) := hW ▸ (World.ownsMap_made w _ _ _).alloc _
 have hT : W.heap[w.heap.size + 1]? = some (.cells #[.map (some w.heap.size)] 144 (0, 0)) := by rw [hW]; exact alloc_new1 w _ _
 have HFIN : Hid (∃ T M κ', Ending.returned (.pointer (some ⟨w.heap.size + 1, 0, none⟩)) = .returned (.pointer (some ⟨T, 0, none⟩)) ∧ Below w.heap.size w W ∧ (∀ g, g < w.heap.size → κ' g = κ g) ∧ TableAt W κ' T 0 M (.map []) (fun _ => none)) :=
  ⟨w.heap.size + 1, w.heap.size, fun g => if g < w.heap.size then κ g else if g = w.heap.size then 41 else 40, rfl, hb, fun g hg => if_pos hg, hT, by rw [if_neg (by omega), if_neg (by omega)], by rw [if_neg (by omega), if_pos rfl], hm, fun _ => rfl, fun _ _ _ h => by cases h⟩
 have HW := Lib.hid hW
 clear hW hb hm hT
 go_enter Tryz.func38, Tryz.ntmps38
 go_wp2_with fail
 rw [← HW.out]
 go_ret
 exact HFIN.out
end Go.Proofs.YtpknmfmpiachkaaGreat
namespace Go.Proofs.YtpknmfmpiachkaaGreat
open Go.RowKit Go.Maps
def Blk (s : SV) (q : Int) : Prop := q ≤ s.hi - 8 ∨ ∃ v ∈ s.its, v.seq = q
def Blkd (F : Option (Nat × SV)) (q : Int) : Prop := ∃ B s, F = some (B, s) ∧ Blk s q
def Free (F : Option (Nat × SV)) (sz : Nat) (q : Int) : Prop := match F with
 | none => sz ≠ 16
 | some (_, s) => ¬ Blk s q
theorem Free.not {F : Option (Nat × SV)} {sz : Nat} {q : Int} (h : Free F sz q) : ¬ Blkd F q := by
 rintro ⟨B, s, rfl, hb⟩
 exact h hb
theorem blk_find {its : List It} {q : Int} {p : Nat} (hs : its.Pairwise fun a b => a.seq < b.seq) (hp : Place its q p) : (∃ v ∈ its, v.seq = q) ↔ ∃ v, its[p]? = some v ∧ v.seq = q := by
 constructor
 · rintro ⟨v, hv, he⟩
   obtain ⟨k, hk, hkv⟩ := List.getElem_of_mem hv
   have hk2 : its[k]? = some v := by rw [List.getElem?_eq_getElem hk, hkv]
   have h1 := (hp.2 k v hk2)
   have h2 : ¬ k < p := fun h => by have := h1.2 h; omega
   by_cases hkp : k = p
   · subst hkp
     exact ⟨v, hk2, he⟩
   · have hpl : p < its.length := by omega
     have h3 := List.pairwise_iff_getElem.1 hs p k hpl hk (by omega)
     rw [hkv] at h3
     have h4 := (hp.2 p its[p] (List.getElem?_eq_getElem hpl)).1 (by omega)
     omega
 · rintro ⟨v, hv, he⟩
   exact ⟨v, List.mem_of_getElem? hv, he⟩
def LookPost (w : World) (F : Option (Nat × SV)) (sz : Nat) (q : Int) (e : Ending) (w' : World) : Prop :=
 ∃ c n code : Int, e = .returned (.tuple #[.agg #[.int .i64 c, .int .i64 n], .int .i64 code]) ∧ Below w.heap.size w w' ∧ (code = 0 ↔ Free F sz q)
theorem look_end {w X W' : World} {F : Option (Nat × SV)} {sz : Nat} {q : Int} {a0 a1 : Value} (hb : Below w.heap.size w X) (hX : X.heap[w.heap.size]? = some (.cells #[a0, a1] 35 (0, 0))) (c n code : Int) (hc : code = 0 ↔ Free F sz q) (hW : W' = (X.setCell ⟨w.heap.size, 0, none⟩ (.int .i64 c)).setCell ⟨w.heap.size, 1, none⟩ (.int .i64 n)) :
 W'.heap[w.heap.size]? = some (.cells #[.int .i64 c, .int .i64 n] 35 (0, 0)) ∧ LookPost w F sz q (.returned (.tuple #[.agg #[.int .i64 c, .int .i64 n], .int .i64 code])) W' :=
 ⟨hW ▸ set2 hX _ _, c, n, code, rfl, hW ▸ below_set (below_set hb _ (by omega)) _ (by omega), hc⟩
set_option maxRecDepth 100000 in
set_option maxHeartbeats 6400000 in
theorem look_any (κ : Nat → Nat) (T cnt M : Nat) (D : DataW Unit) (f : Int → Option (Nat × SV)) (id seq : Int) (hid : 1 ≤ id ∧ id ≤ 1099511627776) (hseq : 1 ≤ seq ∧ seq ≤ 1099511627776) (hcnt : cnt ≤ 1000) (w : World) (hT : TableAt w κ T cnt M D f) :
 Calls Tryz.prog 43 #[.pointer (some ⟨T, 0, none⟩), .int .i64 id, .int .i64 seq] w (LookPost w (f id) (Maps.size D) seq) := by
 obtain ⟨X, hX⟩ : ∃ X, X = w.alloc (.cells #[.int .i64 0, .int .i64 0] 35) := ⟨_, rfl⟩
 have hbX : Below w.heap.size w X := hX ▸ below_alloc (Below.refl _ _) _
 have hXR : X.heap[w.heap.size]? = some (.cells #[.int .i64 0, .int .i64 0] 35 (0, 0)) := hX ▸ heap_alloc_new w _
 have hTX : TableAt X κ T cnt M D f := hT.chg (Chg.of_below (J := fun _ => False) hbX) (fun _ h => h.elim)
 have hlk := hTX.look id (by omega)
 have hlen := hTX.map.len Tryz.underlying142
 have hsz := hTX.map.size_le
 have hn1 := snumber_any id hid
 have hn2 := snumber_any seq hseq
 have t0 : X.cell? ⟨T, 0, none⟩ = some (.map (some M)) := by simp [World.cell?, hTX.var]
 obtain ⟨SZ, hSZ⟩ : ∃ SZ, SZ = Maps.size D := ⟨_, rfl⟩
 rw [← hSZ] at hlen hsz ⊢
 have hse := hTX.sess id
 obtain ⟨F, hF⟩ : ∃ F, F = f id := ⟨_, rfl⟩
 rw [← hF] at hlk hse ⊢
 have HX := Lib.hid hX
 have HBX := Lib.hid hbX
 have HXR := Lib.hid hXR
 have HN1 := Lib.hid hn1
 have HN2 := Lib.hid hn2
 have HSE := Lib.hid hse
 have HLEN := Lib.hid hlen
 obtain ⟨v0, v1, f0, f1⟩ := two_cells hXR
 clear hX hbX hXR hTX hT hn1 hn2 hSZ hF hse hlen
 cases F with
 | none =>
   simp only [ptrB] at hlk
   go_enter Tryz.func43, Tryz.ntmps43
   go_upto_region 1 with fail
   rw [← HX.out]
   clear HX
   go_wp2_with fail
   refine (HN1.out _).mono ?_
   rintro e w1 ⟨rfl, rfl⟩
   go_wp2_with fail
   refine (HN2.out _).mono ?_
   rintro e w1 ⟨rfl, rfl⟩
   have hlen := HLEN.out
   by_cases h16 : SZ = 16
   · subst h16
     go_wp2_with fail
     have hk := look_end (F := none) (sz := 16) (q := seq) HBX.out HXR.out 0 0 131 ⟨fun h => by omega, fun h => absurd rfl h⟩ rfl
     exact bodyPost_ret (results_cell_tmp Tryz.results43 rfl (load_verdict hk.1)) rfl hk.2
   · have hne : ((SZ : Int) == 16) = false := by rw [beq_eq_false_iff_ne]; omega
     go_wp2_with fail
     have hk := look_end (F := none) (sz := SZ) (q := seq) HBX.out HXR.out 0 0 0 ⟨fun _ => h16, fun _ => rfl⟩ rfl
     exact bodyPost_ret (results_cell_tmp Tryz.results43 rfl (load_verdict hk.1)) rfl hk.2
 | some q =>
   obtain ⟨B, sv⟩ := q
   obtain ⟨hi, its⟩ := sv
   simp only [ptrB] at hlk
   obtain ⟨_, _, a, n, cap, base, hB, _, _, ho, hx, hn, hok, _⟩ := HSE.out B _ rfl
   simp only at hB ho hx hok
   obtain ⟨b0, b1, _⟩ := two_cells hB
   have HFI := Lib.hid (find_any B hi seq ⟨by omega, hseq.2⟩ its hok.sorted hok.num a n cap hx X hB (RowN.of_own ho) (by omega))
   have h8 : wrap64 (hi - 8) = hi - 8 := by have := hok.top; unfold num40 at this; unfold wrap64; omega
   have HOK := Lib.hid hok
   have HB := Lib.hid hB
   have HO := Lib.hid ho
   have HXS := Lib.hid hx
   have hwg : (seq ≤ wrap64 (hi - 8)) = (seq ≤ hi - 8) := by rw [h8]
   clear hB ho hx HSE
   go_enter Tryz.func43, Tryz.ntmps43
   go_upto_region 1 with fail
   rw [← HX.out]
   clear HX
   go_wp2_with fail
   refine (HN1.out _).mono ?_
   rintro e w1 ⟨rfl, rfl⟩
   go_wp2_with fail
   refine (HN2.out _).mono ?_
   rintro e w1 ⟨rfl, rfl⟩
   by_cases hg : seq ≤ hi - 8
   · go_wp2_with fail
     have hk := look_end (F := some (B, ⟨hi, its⟩)) (sz := SZ) (q := seq) HBX.out HXR.out 0 0 130 ⟨fun h => by omega, fun h => absurd (.inl hg) h⟩ rfl
     exact bodyPost_ret (results_cell_tmp Tryz.results43 rfl (load_verdict hk.1)) rfl hk.2
   · go_wp2_with fail
     refine HFI.out.mono ?_
     rintro e w2 ⟨i, r, rfl, hin, hrt, hb2⟩
     have HBF := Lib.hid (blk_find HOK.out.sorted hin)
     have HRT := Lib.hid hrt
     have HIN := Lib.hid hin
     clear hrt hin h8 hwg
     have HB2 := Lib.hid (below_then HBX.out hb2)
     have HXR2 : Hid (w2.heap[w.heap.size]? = _) := (hb2.block _ (lt_of_block HXR.out)).trans HXR.out
     have hBB2 := (hb2.block _ (lt_of_block HB.out)).trans HB.out
     have ho2 := own_keep HO.out fun g _ hl => hb2.block g hl
     clear hb2 b0 b1 v0 v1 f0 f1
     obtain ⟨v0, v1, f0, f1⟩ := two_cells HXR2.out
     obtain ⟨b0, b1, _⟩ := two_cells hBB2
     cases r with
     | true =>
       obtain ⟨x, hx1, hx2⟩ := HRT.out.1 rfl
       have hi2 : i < n := by
        have := (List.getElem?_eq_some_iff.1 hx1).1
        have := HXS.out
        omega
       obtain ⟨b, off, rfl, e0, e1, e2⟩ := it_at (RowN.of_own ho2) i hi2 x hx1
       have HX1 := Lib.hid hx1
       clear hx1
       have hi0 : (0 : Int) ≤ (i : Int) := by omega
       have hii : (i : Int) < (n : Int) := by omega
       have hnat : ((i : Int)).toNat = i := by omega
       clear ho2 hBB2
       go_wp2_with fail
       have hk := look_end (F := some (B, ⟨hi, its⟩)) (sz := SZ) (q := seq) HB2.out HXR2.out x.code x.num 5 ⟨fun h => by omega, fun h => absurd (.inr (HBF.out.2 ⟨x, HX1.out, hx2⟩)) h⟩ rfl
       exact bodyPost_ret (results_cell_tmp Tryz.results43 rfl (load_verdict hk.1)) rfl hk.2
     | false =>
       clear ho2 hBB2
       go_wp2_with fail
       have hk := look_end (F := some (B, ⟨hi, its⟩)) (sz := SZ) (q := seq) HB2.out HXR2.out 0 0 0 ⟨fun _ h => h.elim (fun h => by have h : seq ≤ hi - 8 := h; omega) (fun h => by have := HRT.out.2 (HBF.out.1 h); cases this), fun _ => rfl⟩ rfl
       exact bodyPost_ret (results_cell_tmp Tryz.results43 rfl (load_verdict hk.1)) rfl hk.2
end Go.Proofs.YtpknmfmpiachkaaGreat
namespace Go.Proofs.YtpknmfmpiachkaaGreat
open Go.RowKit Go.Maps
def J40 (i : Nat) : Prop := 40 ≤ i ∧ i ≤ 49
structure TableBut (w : World) (κ : Nat → Nat) (T cnt M : Nat) (D : DataW Unit) (f : Int → Option (Nat × SV)) (id : Int) : Prop where
 var : w.heap[T]? = some (.cells #[.map (some M)] 144 (0, 0))
 colT : κ T = 40
 colM : κ M = 41
 map : w.ownsMap Tryz.prog 2 ptrR M cnt D
 at_ : ∀ id : Int, D.atKey (.int .i64 id) (.lit (.int .i64 (-1))) = .lit (.int .i64 (codeB ((f id).map Prod.fst)))
 sess : ∀ id' B s, id' ≠ id → f id' = some (B, s) → 1 ≤ id' ∧ id' ≤ 4 ∧ SessAt w κ cnt (40 + 2 * id'.toNat) B s
theorem TableAt.but {w : World} {κ : Nat → Nat} {T cnt M : Nat} {D : DataW Unit} {f : Int → Option (Nat × SV)} (h : TableAt w κ T cnt M D f) (id : Int) : TableBut w κ T cnt M D f id := ⟨h.var, h.colT, h.colM, h.map, h.at_, fun id' B s _ hf => h.sess id' B s hf⟩
theorem TableBut.all {w : World} {κ : Nat → Nat} {T cnt M : Nat} {D : DataW Unit} {f : Int → Option (Nat × SV)} {id : Int} {B : Nat} {s : SV} (h : TableBut w κ T cnt M D f id) (hf : (f id).map Prod.fst = some B) (hid : 1 ≤ id ∧ id ≤ 4) (hs : SessAt w κ cnt (40 + 2 * id.toNat) B s) : TableAt w κ T cnt M D (fun x => if x = id then some (B, s) else f x) :=
 ⟨h.var, h.colT, h.colM, h.map, fun x => by
  by_cases e : x = id
  · subst e
    rw [if_pos rfl]
    exact (h.at_ x).trans (by rw [hf]; rfl)
  · rw [if_neg e]
    exact h.at_ x, fun id' B' s' hf' => by
  by_cases e : id' = id
  · subst e
    rw [if_pos rfl] at hf'
    obtain ⟨rfl, rfl⟩ := Prod.mk.inj (Option.some.inj hf')
    exact ⟨hid.1, hid.2, hs⟩
  · rw [if_neg e] at hf'
    exact h.sess id' B' s' e hf'⟩
theorem TableBut.mono {w : World} {κ : Nat → Nat} {T cnt cnt' M : Nat} {D : DataW Unit} {f : Int → Option (Nat × SV)} {id : Int} (h : TableBut w κ T cnt M D f id) (hn : cnt ≤ cnt') : TableBut w κ T cnt' M D f id :=
 ⟨h.var, h.colT, h.colM, h.map.mono hn, h.at_, fun id' B s hne hf => ⟨(h.sess id' B s hne hf).1, (h.sess id' B s hne hf).2.1, (h.sess id' B s hne hf).2.2.mono hn⟩⟩
theorem TableBut.chg {w w' : World} {κ κ' : Nat → Nat} {T cnt M : Nat} {D : DataW Unit} {f : Int → Option (Nat × SV)} {id : Int} (h : TableBut w κ T cnt M D f id) (hid : 1 ≤ id ∧ id ≤ 4) {J : Nat → Prop} (hc : Chg J κ κ' w w') (hj : ∀ i, J i → i < 40 ∨ 49 < i ∨ i = 40 + 2 * id.toNat ∨ i = 41 + 2 * id.toNat) : TableBut w' κ' T cnt M D f id := by
 have hlt := h.map.lt
 obtain ⟨es, clock, hb, F, hs, hD⟩ := h.map
 have n40 : ¬ J 40 := fun hJ => by have := hj _ hJ; omega
 have n41 : ¬ J 41 := fun hJ => by have := hj _ hJ; omega
 refine ⟨(hc.block T (lt_of_block h.var) (by rw [h.colT]; exact n40)).trans h.var, (hc.paint T (lt_of_block h.var)).trans h.colT, (hc.paint M hlt).trans h.colM, ⟨es, clock, (hc.block M hlt (by rw [h.colM]; exact n41)).trans hb, F, hs, hD⟩, h.at_, fun id' B s hne hf => ?_⟩
 obtain ⟨h1, h2, h3⟩ := h.sess id' B s hne hf
 exact ⟨h1, h2, h3.chg hc (fun hJ => by have := hj _ hJ; omega) (fun hJ => by have := hj _ hJ; omega)⟩
def PutPost (κ : Nat → Nat) (w : World) (T cnt : Nat) (f : Int → Option (Nat × SV)) (id seq : Int) (e : Ending) (w' : World) : Prop :=
 ∃ (κ' : Nat → Nat) (M' : Nat) (D' : DataW Unit) (f' : Int → Option (Nat × SV)), e = .returned (.int .i64 0) ∧ Chg J40 κ κ' w w' ∧ TableAt w' κ' T cnt M' D' f' ∧ ∀ x q, Blkd (f x) q ∨ (x = id ∧ q = seq) → Blkd (f' x) q
theorem SVOk.ins {hi : Int} {its : List It} (h : SVOk hi its) {x : It} (hx : num40 x.seq) {p : Nat} (hp : Place its x.seq p) (hn : ∀ v ∈ its, v.seq ≠ x.seq) : SVOk hi (its.take p ++ [x] ++ its.drop p) := by
 have hlow : ∀ v ∈ its.take p, v.seq < x.seq := fun v hv => by
  obtain ⟨k, hk, hkv⟩ := List.getElem_of_mem hv
  rw [List.length_take] at hk
  rw [List.getElem_take] at hkv
  exact (hp.2 k v (by rw [List.getElem?_eq_getElem (by omega), hkv])).2 (by omega)
 have hhigh : ∀ v ∈ its.drop p, x.seq < v.seq := fun v hv => by
  obtain ⟨k, hk, hkv⟩ := List.getElem_of_mem hv
  rw [List.length_drop] at hk
  rw [List.getElem_drop] at hkv
  have h1 := hp.2 (p + k) v (by rw [List.getElem?_eq_getElem (by omega), hkv])
  have h2 := hn v (List.mem_of_mem_drop hv)
  have h3 : ¬ v.seq < x.seq := fun h => by have := h1.1 h; omega
  omega
 refine ⟨?_, fun v hv => ?_, h.top⟩
 · rw [List.append_assoc, List.pairwise_append]
   refine ⟨h.sorted.sublist (List.take_sublist p its), ?_, fun a ha b hb => ?_⟩
   · rw [List.singleton_append, List.pairwise_cons]
     exact ⟨fun b hb => hhigh b hb, h.sorted.sublist (List.drop_sublist p its)⟩
   · have h1 := hlow a ha
     rw [List.singleton_append, List.mem_cons] at hb
     rcases hb with rfl | hb
     · exact h1
     · have := hhigh b hb
       omega
 · rcases List.mem_append.1 hv with hv | hv
   · rcases List.mem_append.1 hv with hv | hv
     · exact h.num v (List.mem_of_mem_take hv)
     · rw [List.mem_singleton.1 hv]
       exact hx
   · exact h.num v (List.mem_of_mem_drop hv)
theorem blk_ins {hi q : Int} {its : List It} {x : It} {p : Nat} (h : Blk ⟨hi, its⟩ q ∨ q = x.seq) : Blk ⟨hi, its.take p ++ [x] ++ its.drop p⟩ q := by
 rcases h with (h | ⟨v, hv, he⟩) | h
 · exact .inl h
 · refine .inr ⟨v, ?_, he⟩
   rw [← List.take_append_drop p its] at hv
   show v ∈ its.take p ++ [x] ++ its.drop p
   simp only [List.mem_append] at hv ⊢
   rcases hv with hv | hv
   · exact .inl (.inl hv)
   · exact .inr hv
 · exact .inr ⟨x, by show x ∈ its.take p ++ [x] ++ its.drop p; simp, h.symm⟩
theorem Blk.top {hi x q : Int} {its : List It} (h : Blk ⟨hi, its⟩ q) (hx : hi ≤ x) : Blk ⟨x, its⟩ q := h.imp (fun h => by have h : q ≤ hi - 8 := h; show q ≤ x - 8; omega) id
theorem Blk.fewer {hi q : Int} {its : List It} (h : Blk ⟨hi, its⟩ q) : Blk ⟨hi, its.filter fun v => !goneP hi v⟩ q := by
 rcases h with h | ⟨v, hv, he⟩
 · exact .inl h
 · by_cases hg : q ≤ hi - 8
   · exact .inl hg
   · exact .inr ⟨v, List.mem_filter.2 ⟨hv, by simp only [goneP, he]; simpa using hg⟩, he⟩
theorem SVOk.fewer {hi : Int} {its : List It} (h : SVOk hi its) (p : It → Bool) : SVOk hi (its.filter p) := ⟨h.sorted.sublist List.filter_sublist, fun v hv => h.num v (List.mem_filter.1 hv).1, h.top⟩
structure PutS (κ0 : Nat → Nat) (w0 wx : World) (κ : Nat → Nat) (T cnt M : Nat) (D : DataW Unit) (f : Int → Option (Nat × SV)) (id : Int) (PV PB B : Nat) (hi : Int) (a : Option Addr) (n cap base : Nat) (its : List It) (c v : Int) (f0 : Int → Option (Nat × SV)) (Q : Int → Prop) : Prop where
 but : TableBut wx κ T cnt M D f id
 fid : (f id).map Prod.fst = some B
 old : ∀ x, x ≠ id → f x = f0 x
 idr : 1 ≤ id ∧ id ≤ 4
 chg : Chg J40 κ0 κ w0 wx
 pv : wx.heap[PV]? = some (.cells #[.pointer (some ⟨B, 0, none⟩)] 154 (0, 0))
 cpv : κ PV = 0
 pb : wx.heap[PB]? = some (.cells #[.int .i64 c, .int .i64 v] 35 (0, 0))
 cpb : κ PB = 0
 sb : SessB wx B hi a n cap
 cb : κ B = 40 + 2 * id.toNat
 bs : base ≤ wx.heap.size
 own : wx.ownsRow base 161 3 (.slice a n cap) n (its.flatMap It.cells)
 len : its.length = n
 ok : SVOk hi its
 bk : ∀ q, Q q → Blk ⟨hi, its⟩ q
 col : ∀ g, (Value.slice a n cap).ownBlock = some g → κ g = 41 + 2 * id.toNat
section
variable {κ0 : Nat → Nat} {w0 wx w' : World} {κ κ' : Nat → Nat} {T cnt M : Nat} {D : DataW Unit} {f : Int → Option (Nat × SV)} {id : Int} {PV PB B : Nat} {hi hi' : Int} {a a' : Option Addr} {n cap base n' cap' : Nat} {its its' : List It} {c v : Int} {f0 : Int → Option (Nat × SV)} {Q Q' : Int → Prop}
theorem PutS.below (h : PutS κ0 w0 wx κ T cnt M D f id PV PB B hi a n cap base its c v f0 Q) (hb : Below wx.heap.size wx w') : PutS κ0 w0 w' κ T cnt M D f id PV PB B hi a n cap base its c v f0 Q :=
 have hc : Chg (fun _ => False) κ κ wx w' := Chg.of_below hb
 ⟨h.but.chg h.idr hc (fun _ h => h.elim), h.fid, h.old, h.idr, h.chg.trans (Chg.of_below hb), (hb.block _ (lt_of_block h.pv)).trans h.pv, h.cpv, (hb.block _ (lt_of_block h.pb)).trans h.pb, h.cpb, (hb.block _ (lt_of_block h.sb)).trans h.sb, h.cb, Nat.le_trans h.bs hb.size, own_keep h.own fun g _ hl => hb.block g hl, h.len, h.ok, h.bk, h.col⟩
theorem PutS.step (h : PutS κ0 w0 wx κ T cnt M D f id PV PB B hi a n cap base its c v f0 Q) (hc : Chg (fun i => i = 40 + 2 * id.toNat ∨ i = 41 + 2 * id.toNat) κ κ' wx w') (hs : SessB w' B hi' a' n' cap') (ho : w'.ownsRow base 161 3 (.slice a' n' cap') n' (its'.flatMap It.cells)) (hl : its'.length = n') (hx : SVOk hi' its') (hq : ∀ q, Q' q → Blk ⟨hi', its'⟩ q) (hg : ∀ g, (Value.slice a' n' cap').ownBlock = some g → κ' g = 41 + 2 * id.toNat) :
 PutS κ0 w0 w' κ' T cnt M D f id PV PB B hi' a' n' cap' base its' c v f0 Q' := by
 have hid := h.idr
 exact ⟨h.but.chg h.idr hc (fun i hi => by omega), h.fid, h.old, h.idr, h.chg.trans (hc.mono fun i hi => by unfold J40; omega), (hc.block PV (lt_of_block h.pv) (by rw [h.cpv]; omega)).trans h.pv, (hc.paint PV (lt_of_block h.pv)).trans h.cpv, (hc.block PB (lt_of_block h.pb) (by rw [h.cpb]; omega)).trans h.pb, (hc.paint PB (lt_of_block h.pb)).trans h.cpb, hs, (hc.paint B (lt_of_block h.sb)).trans h.cb, Nat.le_trans h.bs hc.size, ho, hl, hx, hq, hg⟩
theorem PutS.done (h : PutS κ0 w0 wx κ T cnt M D f id PV PB B hi a n cap base its c v f0 Q) (hn : n ≤ cnt) {seq : Int} (hq : ∀ q, Blkd (f0 id) q ∨ q = seq → Q q) : PutPost κ0 w0 T cnt f0 id seq (.returned (.int .i64 0)) wx :=
 ⟨κ, M, D, fun x => if x = id then some (B, ⟨hi, its⟩) else f x, rfl, h.chg, h.but.all h.fid h.idr ⟨a, n, cap, base, h.sb, h.cb, h.bs, h.own, h.len, hn, h.ok, fun g hg => by rw [h.col g hg]; omega⟩, fun x q hb => by
  by_cases e : x = id
  · subst e
    show Blkd (if x = x then _ else _) q
    rw [if_pos rfl]
    exact ⟨B, _, rfl, h.bk q (hq q (hb.imp (fun h => h) fun h => h.2))⟩
  · show Blkd (if x = id then _ else _) q
    rw [if_neg e, h.old x e]
    exact hb.elim (fun h => h) fun h => absurd h.1 e⟩
theorem PutS.ins {w3 : World} (h : PutS κ0 w0 wx κ T cnt M D f id PV PB B hi a n cap base its c v f0 Q) (ho : w3.ownsRow base 161 3 (.slice a' n' cap') n' (its'.flatMap It.cells)) (hl : its'.length = n') (hx : SVOk hi its') (hq : ∀ q, Q' q → Blk ⟨hi, its'⟩ q) (hg : wx.grownBy w3 (Value.slice a n cap).ownBlock) (hat : (Value.slice a' n' cap').ownBlock = (Value.slice a n cap).ownBlock ∨ ∃ g, (Value.slice a' n' cap').ownBlock = some g ∧ wx.heap.size ≤ g) :
 w3.heap[PV]? = some (.cells #[.pointer (some ⟨B, 0, none⟩)] 154 (0, 0)) ∧ w3.heap[PB]? = some (.cells #[.int .i64 c, .int .i64 v] 35 (0, 0)) ∧ SessB w3 B hi a n cap ∧ ∃ κ', PutS κ0 w0 (w3.setCell ⟨B, 1, none⟩ (.slice a' n' cap')) κ' T cnt M D f id PV PB B hi a' n' cap' base its' c v f0 Q' := by
 have hc1 : Chg (fun i => i = 40 + 2 * id.toNat ∨ i = 41 + 2 * id.toNat) κ (tint wx κ (41 + 2 * id.toNat)) wx w3 := ⟨hg.os, hg.tape, hg.output, hg.size, fun g hgl => tint_old hgl, fun g hgl hn => hg.block g hgl fun e => hn (.inr (h.col g e.symm))⟩
 have hBl := lt_of_block h.sb
 have hkB : tint wx κ (41 + 2 * id.toNat) B = 40 + 2 * id.toNat := (tint_old hBl).trans h.cb
 have hc2 : Chg (fun i => i = 40 + 2 * id.toNat ∨ i = 41 + 2 * id.toNat) (tint wx κ (41 + 2 * id.toNat)) (tint wx κ (41 + 2 * id.toNat)) w3 (w3.setCell ⟨B, 1, none⟩ (.slice a' n' cap')) := Chg.of_grown (grown_set w3 B 1 _) (.inl hkB)
 have hB3 : w3.heap[B]? = some (.cells #[.int .i64 hi, .slice a n cap] 157 (0, 0)) := (hg.block B hBl fun e => by have h1 := h.col B e.symm; have h2 := h.cb; omega).trans h.sb
 have hcol : ∀ g, (Value.slice a' n' cap').ownBlock = some g → tint wx κ (41 + 2 * id.toNat) g = 41 + 2 * id.toNat := fun g hgo => by
  rcases hat with h' | ⟨g', h', hl⟩
  · rw [h'] at hgo
    rw [tint_old (h.own.lt g hgo).2]
    exact h.col g hgo
  · rw [h'] at hgo
    have := Option.some.inj hgo
    exact tint_new (by omega)
 refine ⟨(hc1.block PV (lt_of_block h.pv) (by rw [h.cpv]; omega)).trans h.pv, (hc1.block PB (lt_of_block h.pb) (by rw [h.cpb]; omega)).trans h.pb, hB3, _, h.step (hc1.trans hc2) (set_block (i := 1) hB3 _) (own_keep ho fun g hgo hl => set_far rfl fun e => by have h1 := hcol g hgo; rw [e, hkB] at h1; omega) hl hx hq hcol⟩
theorem PutS.top (h : PutS κ0 w0 wx κ T cnt M D f id PV PB B hi a n cap base its c v f0 Q) (x : Int) (hx : hi ≤ x) (hx2 : num40 x) : PutS κ0 w0 (wx.setCell ⟨B, 0, none⟩ (.int .i64 x)) κ T cnt M D f id PV PB B x a n cap base its c v f0 Q :=
 h.step (Chg.of_grown (grown_set wx B 0 _) (.inl h.cb)) (set_block (i := 0) h.sb _) (own_keep h.own fun g hgo hl => set_far rfl fun e => by have h1 := h.col g hgo; have h2 := h.cb; rw [e] at h1; omega) h.len ⟨h.ok.sorted, h.ok.num, hx2⟩ (fun q hq => (h.bk q hq).top hx) h.col
theorem own_some {w : World} {base : Nat} {e : TypeId} {size n cap : Nat} {a : Option Addr} {xs : List Value} (h : w.ownsRow base e size (.slice a n cap) n xs) (hn : 0 < n) : ∃ g, a = some ⟨g, 0, none⟩ := by
 rcases h.2 with ⟨_, h0⟩ | ⟨g, _, _, h1, _⟩
 · omega
 · injection h1 with h1
   exact ⟨g, h1⟩
end
theorem put_old {κ : Nat → Nat} {w W : World} {T cnt M : Nat} {D : DataW Unit} {f : Int → Option (Nat × SV)} {id : Int} {PV PB B : Nat} {c v : Int} (hT : TableAt w κ T cnt M D f) {sv : SV} (hf : f id = some (B, sv)) (hb : Below w.heap.size w W) (hpv : W.heap[PV]? = some (.cells #[.pointer (some ⟨B, 0, none⟩)] 154 (0, 0))) (hpb : W.heap[PB]? = some (.cells #[.int .i64 c, .int .i64 v] 35 (0, 0))) (h1 : w.heap.size ≤ PV) (h2 : w.heap.size ≤ PB) :
 ∃ κ' a n cap base, n ≤ cnt ∧ PutS κ w W κ' T (cnt + 1) M D f id PV PB B sv.hi a n cap base sv.its c v f (Blkd (f id)) := by
 have hc := chg_tint (κ := κ) (i := 0) hb
 obtain ⟨i1, i2, a, n, cap, base, s1, s2, s3, s4, s5, s6, s7, s8⟩ := hT.sess id B sv hf
 have hc' : Chg J40 κ (tint w κ 0) w W := hc.mono fun _ h => h.elim
 exact ⟨_, a, n, cap, base, s6, ((hT.but id).chg ⟨i1, i2⟩ hc (fun _ h => h.elim)).mono (Nat.le_succ _), by rw [hf]; rfl, fun _ _ => rfl, ⟨i1, i2⟩, hc', hpv, tint_new h1, hpb, tint_new h2, (hb.block B (lt_of_block s1)).trans s1, (tint_old (lt_of_block s1)).trans s2, Nat.le_trans s3 hb.size, own_keep s4 fun g _ hl => hb.block g hl, s5, s7, (fun q ⟨B', s', e, hq⟩ => by rw [hf] at e; obtain ⟨rfl, rfl⟩ := Prod.mk.inj (Option.some.inj e); exact hq), fun g hg => by rw [tint_old (s4.lt g hg).2, s8 g hg]; omega⟩
theorem put_new {κ : Nat → Nat} {w W W5 : World} {T cnt M : Nat} {D : DataW Unit} {f : Int → Option (Nat × SV)} {id : Int} {PV PB B : Nat} {c v : Int} (hT : TableAt w κ T cnt M D f) (hf : f id = none) (hid : 1 ≤ id ∧ id ≤ 4) (hb : Below w.heap.size w W) (hpv : W.heap[PV]? = some (.cells #[.pointer (some ⟨B, 0, none⟩)] 154 (0, 0))) (hpb : W.heap[PB]? = some (.cells #[.int .i64 c, .int .i64 v] 35 (0, 0))) (hB : W.heap[B]? = some (.cells #[.int .i64 0, .slice none 0 0] 157 (0, 0))) (h1 : w.heap.size ≤ PV) (h2 : w.heap.size ≤ PB) (h3 : w.heap.size ≤ B) (hn1 : PV ≠ B) (hn2 : PB ≠ B)
 (hm : W5.ownsMap Tryz.prog 2 ptrR M (cnt + 1) (D.put (.int .i64 id) (.lit (.int .i64 (B : Nat))))) (hg : W.grownBy W5 (some M)) :
 ∃ κ' D' f', PutS κ w W5 κ' T (cnt + 1) M D' f' id PV PB B 0 none 0 0 0 [] c v f (Blkd (f id)) := by
 have hml := hT.map.lt
 obtain ⟨κ1, hκ1⟩ : ∃ κ1 : Nat → Nat, κ1 = fun g => if g < w.heap.size then κ g else if g = B then 40 + 2 * id.toNat else 0 := ⟨_, rfl⟩
 have hp : ∀ g, g < w.heap.size → κ1 g = κ g := fun g h => by rw [hκ1]; exact if_pos h
 have hPV : κ1 PV = 0 := by rw [hκ1]; show (if PV < w.heap.size then κ PV else if PV = B then _ else 0) = 0; rw [if_neg (by omega), if_neg hn1]
 have hPB : κ1 PB = 0 := by rw [hκ1]; show (if PB < w.heap.size then κ PB else if PB = B then _ else 0) = 0; rw [if_neg (by omega), if_neg hn2]
 have hBB : κ1 B = 40 + 2 * id.toNat := by rw [hκ1]; show (if B < w.heap.size then κ B else if B = B then _ else 0) = _; rw [if_neg (by omega), if_pos rfl]
 have hcW : Chg (fun _ => False) κ κ1 w W := ⟨hb.os, hb.tape, hb.output, hb.size, hp, fun g hgl _ => hb.block g hgl⟩
 have hkM : κ1 M = 41 := (hp M hml).trans hT.colM
 have hc5 : Chg (· = 41) κ1 κ1 W W5 := Chg.of_grown hg hkM
 have hTW := (hT.chg hcW (fun _ h => h.elim)).but id
 have hMl : M < W.heap.size := Nat.lt_of_lt_of_le hml hb.size
 have hMw : w.heap.size ≤ PV ∧ M ≠ PV ∧ M ≠ PB ∧ M ≠ B := by omega
 have hTM : T ≠ M := fun e => by have h1 := hT.colT; have h2 := hT.colM; rw [e] at h1; omega
 refine ⟨κ1, D.put (.int .i64 id) (.lit (.int .i64 (B : Nat))), fun x => if x = id then some (B, ⟨0, []⟩) else f x, ⟨(hg.block T (lt_of_block hTW.var) (by simpa using hTM)).trans hTW.var, hTW.colT, hkM, hm, fun x => ?_, fun id' B' s' hne hf' => ?_⟩, (by show Option.map Prod.fst (if id = id then _ else _) = _; rw [if_pos rfl]; rfl), (fun x hx => if_neg hx), hid, ?_, (hg.block PV (lt_of_block hpv) (by simp; omega)).trans hpv, hPV, (hg.block PB (lt_of_block hpb) (by simp; omega)).trans hpb, hPB, (hg.block B (lt_of_block hB) (by simp; omega)).trans hB, hBB, Nat.zero_le _, World.ownsRow_nil _ _ _ _, rfl, ⟨List.Pairwise.nil, (fun v hv => absurd hv List.not_mem_nil), by unfold num40; omega⟩, (fun q ⟨B', s', e, _⟩ => by rw [hf] at e; cases e), fun g hg => by simp [Value.ownBlock] at hg⟩
 · by_cases e : x = id
   · subst e
     rw [Maps.atKey_put_same hT.map.isMap (by trivial), if_pos rfl]
     rfl
   · rw [Maps.atKey_put_other (by intro h; injection h with _ h; exact e h), if_neg e]
     exact hT.at_ x
 · rw [if_neg hne] at hf'
   obtain ⟨i1, i2, i3⟩ := hTW.sess id' B' s' hne hf'
   exact ⟨i1, i2, (i3.chg hc5 (by omega) (by omega)).mono (Nat.le_succ _)⟩
 · exact (hcW.mono fun _ h => h.elim).trans (hc5.mono fun i hi => by unfold J40; omega)
end Go.Proofs.YtpknmfmpiachkaaGreat
namespace Go.Proofs.YtpknmfmpiachkaaGreat
open Go.RowKit Go.Maps
theorem one_cell {w : World} {B : Nat} {T : TypeId} {c0 : Value} (h : w.heap[B]? = some (.cells #[c0] T (0, 0))) : w.cell? ⟨B, 0, none⟩ = some c0 ∧ w.frozen? ⟨B, 0, none⟩ = false := by
 refine ⟨?_, ?_⟩ <;> simp [World.cell?, World.frozen?, h]
theorem flatI_ins (L : List It) (p : Nat) (x : It) : (L.flatMap It.cells).take (p * 3) ++ x.cells ++ (L.flatMap It.cells).drop (p * 3) = (L.take p ++ [x] ++ L.drop p).flatMap It.cells := by
 rw [takeI, dropI]
 simp only [List.flatMap_append, List.flatMap_cons, List.flatMap_nil, List.append_nil]
set_option maxRecDepth 100000 in
set_option maxHeartbeats 25600000 in
theorem sput_any (κ : Nat → Nat) (T cnt M : Nat) (D : DataW Unit) (f : Int → Option (Nat × SV)) (id seq c v : Int) (hid : 1 ≤ id ∧ id ≤ 4) (hseq : 1 ≤ seq ∧ seq ≤ 1099511627776) (hc1 : 0 ≤ c) (hc2 : c ≤ 999) (hv : num40 v) (hcnt : cnt ≤ 900) (w : World) (hT : TableAt w κ T cnt M D f) (hfree : Free (f id) (Maps.size D) seq) :
 Calls Tryz.prog 44 #[.pointer (some ⟨T, 0, none⟩), .int .i64 id, .int .i64 seq, .agg #[.int .i64 c, .int .i64 v]] w (PutPost κ w T (cnt + 1) f id seq) := by
 obtain ⟨post, hpost⟩ : ∃ post, post = PutPost κ w T (cnt + 1) f id seq := ⟨_, rfl⟩
 rw [← hpost]
 obtain ⟨PB, hPB⟩ : ∃ PB, PB = w.heap.size := ⟨_, rfl⟩
 obtain ⟨X, hX⟩ : ∃ X, X = w.alloc (.cells #[.int .i64 c, .int .i64 v] 35) := ⟨_, rfl⟩
 have hbX : Below w.heap.size w X := hX ▸ below_alloc (Below.refl _ _) _
 have hXP : X.heap[PB]? = some (.cells #[.int .i64 c, .int .i64 v] 35 (0, 0)) := by rw [hX, hPB]; exact heap_alloc_new w _
 have HLK := Lib.hid (look_any κ T cnt M D f id seq (by omega) hseq (by omega) X (hT.chg (Chg.of_below (J := fun _ => False) hbX) (fun _ h => h.elim)))
 have HT := Lib.hid hT
 have HX := Lib.hid hX
 have HBX := Lib.hid hbX
 have HXP := Lib.hid hXP
 have HPE := Lib.hid hPB
 have HPOST := Lib.hid hpost
 have HFREE := Lib.hid hfree
 obtain ⟨hv1, hv2⟩ := hv
 clear hX hbX hXP hPB hT hpost
 go_enter Tryz.func44, Tryz.ntmps44
 go_upto_region 1 with fail
 rw [← HX.out, ← HPE.out]
 clear HX
 go_wp2_with fail
 refine HLK.out.mono ?_
 rintro e w1 ⟨c1, n1, code, rfl, hb1, hcode⟩
 obtain rfl : code = 0 := hcode.2 HFREE.out
 clear hcode
 obtain ⟨Y, hY⟩ : ∃ Y, Y = w1.alloc (.cells #[.int .i64 c1, .int .i64 n1] 35) := ⟨_, rfl⟩
 have hbY1 : Below w1.heap.size w1 Y := hY ▸ below_alloc (Below.refl _ _) _
 have HBY := Lib.hid (below_then HBX.out (below_then hb1 hbY1))
 have HYP : Hid (Y.heap[PB]? = some (.cells #[.int .i64 c, .int .i64 v] 35 (0, 0))) := (hbY1.block _ (Nat.lt_of_lt_of_le (lt_of_block HXP.out) hb1.size)).trans ((hb1.block _ (lt_of_block HXP.out)).trans HXP.out)
 have HY := Lib.hid hY
 clear hY hb1 hbY1 HLK HBX HXP
 go_upto_region 2 with fail
 rw [← HY.out]
 clear HY
 obtain ⟨p0, p1, _, _⟩ := two_cells HYP.out
 have h1 : ¬ c < 0 := by omega
 have h2 : ¬ 999 < c := by omega
 have h3 : ¬ v < 0 := by omega
 have h4 : ¬ 1099511627776 < v := by omega
 have hTY := HT.out.chg (Chg.of_below (J := fun _ => False) HBY.out) (fun _ h => h.elim)
 have hlk := hTY.look id (by omega)
 have t0 := (one_cell hTY.var).1
 obtain ⟨PV, hPV⟩ : ∃ PV, PV = Y.heap.size := ⟨_, rfl⟩
 have hPVw : w.heap.size ≤ PV := hPV ▸ HBY.out.size
 have hPBw : w.heap.size ≤ PB := Nat.le_of_eq HPE.out.symm
 have hPBV : PB < PV := hPV ▸ lt_of_block HYP.out
 have HPVE := Lib.hid hPV
 go_upto_region 6 with fail
 obtain ⟨F, hF⟩ : ∃ F, F = f id := ⟨_, rfl⟩
 rw [← hF] at hlk
 have hlk2 : (Instr.lookup 142 (.map (some M)) (.int .i64 id) false).run Tryz.prog Y =   .ok (.pointer (ptrB F)) Y := by cases F <;> exact hlk
 obtain ⟨pv, hpv⟩ : ∃ pv : Option Addr, pv = ptrB F := ⟨_, rfl⟩
 rw [← hpv] at hlk2
 clear hlk
 have HF := Lib.hid hF
 have HPV := Lib.hid hpv
 have mixed : Tryz.prog.follows .mixedOrders = true := by kernel_rfl
 obtain ⟨Z, hZ⟩ : ∃ Z, Z = Y.alloc (.cells #[.pointer pv] 154) := ⟨_, rfl⟩
 have hbZ1 : Below Y.heap.size Y Z := hZ ▸ below_alloc (Below.refl _ _) _
 have hZP : Z.heap[PV]? = some (.cells #[.pointer pv] 154 (0, 0)) := by rw [hZ, hPV]; exact heap_alloc_new Y _
 obtain ⟨z0, zf0⟩ := one_cell hZP
 have HZ := Lib.hid hZ
 have HBZ := Lib.hid hbZ1
 have HZP := Lib.hid hZP
 have HZs : Hid (Z.heap.size = PV + 1) := by show _ = _; rw [hZ, World.size_alloc, hPV]
 clear hPV hF hTY p0 p1 h1 h2 h3 h4 hpv hZ hbZ1 hZP hfree
 go_upto_region 7 with fail
 rw [← HZ.out, ← HPVE.out]
 clear HZ HPVE hlk2 t0
 go_cut [49] (fun s49 wx => s49 = .bool (decide (F = none)) ∧ Z = wx)
 case first =>
  have hpv := HPV.out
  cases F with
  | some q =>
    obtain ⟨B, sv⟩ := q
    simp only [ptrB] at hpv
    rw [hpv] at z0
    go_wp2_with fail
    go_meet
    exact ⟨rfl, rfl⟩
  | none =>
    simp only [ptrB] at hpv
    rw [hpv] at z0
    go_wp2_with fail
    go_meet
    exact ⟨rfl, rfl⟩
 case rest =>
 obtain ⟨rfl, rfl⟩ := hcut
 go_upto_if 49 with fail
 go_cut [] (fun wx => ∃ (κ1 : Nat → Nat) (D1 : DataW Unit) (f1 : Int → Option (Nat × SV)) (B : Nat) (hi : Int) (a : Option Addr) (n cap base : Nat) (its : List It), n ≤ cnt ∧ Hid (∀ v ∈ its, v.seq ≠ seq) ∧ Hid (PutS κ w wx κ1 T (cnt + 1) M D1 f1 id PV PB B hi a n cap base its c v f (Blkd (f id))))
 case first =>
  have hpv := HPV.out
  cases F with
  | some q =>
    obtain ⟨B, sv⟩ := q
    simp only [ptrB] at hpv
    subst hpv
    have hno : ∀ v ∈ sv.its, v.seq ≠ seq := fun v hv he => by
     have h := HFREE.out
     rw [← HF.out] at h
     exact h (.inr ⟨v, hv, he⟩)
    have HNO := Lib.hid hno
    clear hno
    obtain ⟨κ1, a, n, cap, base, hn, hps⟩ := put_old (PV := PV) (PB := PB) HT.out HF.out.symm (below_then HBY.out HBZ.out) HZP.out ((HBZ.out.block _ (lt_of_block HYP.out)).trans HYP.out) hPVw hPBw
    have HPS := Lib.hid hps
    clear hps
    go_wp2_with fail
    go_meet
    exact ⟨κ1, D, f, B, sv.hi, a, n, cap, base, sv.its, hn, HNO, HPS⟩
  | none =>
    simp only [ptrB] at hpv
    subst hpv
    obtain ⟨B, hBB⟩ : ∃ B, B = Z.heap.size := ⟨_, rfl⟩
    obtain ⟨U, hU⟩ : ∃ U, U = (Z.alloc (.cells #[.int .i64 0, .slice none 0 0] 157)).setCell ⟨PV, 0, none⟩ (.pointer (some ⟨B, 0, none⟩)) := ⟨_, rfl⟩
    have hZs := HZs.out
    have hZ2 : (Z.alloc (.cells #[.int .i64 0, .slice none 0 0] 157)).heap[PV]? = some (.cells #[.pointer none] 154 (0, 0)) := alloc_keep HZP.out _
    have hUP : U.heap[PV]? = some (.cells #[.pointer (some ⟨B, 0, none⟩)] 154 (0, 0)) := hU ▸ set_block (i := 0) hZ2 _
    have hUB : U.heap[B]? = some (.cells #[.int .i64 0, .slice none 0 0] 157 (0, 0)) := by rw [hU, hBB]; exact set_far (heap_alloc_new Z _) (by omega)
    have hUQ : U.heap[PB]? = some (.cells #[.int .i64 c, .int .i64 v] 35 (0, 0)) := by rw [hU]; exact set_far (alloc_keep ((HBZ.out.block _ (lt_of_block HYP.out)).trans HYP.out) _) (by omega)
    have hbU : Below w.heap.size w U := hU ▸ below_set (below_alloc (below_then HBY.out HBZ.out) _) _ hPVw
    have hTU := HT.out.chg (Chg.of_below (J := fun _ => False) hbU) (fun _ h => h.elim)
    obtain ⟨W5, hrun, hm5, hg5⟩ := (hTU.map.drew).update keyI Tryz.underlying142 (by simp only [maxLen]; omega) (keyI_of (n := id) (by omega)) (val := .pointer (some ⟨B, 0, none⟩)) (d := .lit (.int .i64 (B : Nat))) (ps := []) rfl
    obtain ⟨κ1, D1, f1, hps⟩ := put_new (PV := PV) (PB := PB) HT.out HF.out.symm hid hbU hUP hUQ hUB hPVw hPBw (by omega) (by omega) (by omega) hm5 (grown_drew hg5)
    have HPS := Lib.hid hps
    have HU := Lib.hid hU
    have HBB := Lib.hid hBB
    obtain ⟨u0, _⟩ := one_cell hUP
    obtain ⟨t1, _⟩ := one_cell hTU.var
    have HRUN := Lib.hid hrun
    obtain ⟨zz0, zzf0⟩ := one_cell hZ2
    clear hps hU hBB hZs hZ2 hUP hUB hUQ hbU hTU hm5 hg5 hrun HBY HYP HT HF
    go_upto_region 9 with fail
    rw [← HBB.out, ← HU.out]
    clear HU HBB zz0 zzf0 z0 zf0
    have hrun := HRUN.out
    go_region
    go_wp2_with fail
    go_meet
    exact ⟨κ1, D1, f1, B, 0, none, 0, 0, 0, [], Nat.zero_le _, (fun v hv => absurd hv List.not_mem_nil : ∀ v ∈ ([] : List It), v.seq ≠ seq), HPS⟩
 case rest =>
  obtain ⟨κ1, D1, f1, B, hi, a, n, cap, base, its, hn, HNO, HPS⟩ := hcut
  obtain ⟨Z, hZ⟩ : ∃ Z, Z = wc := ⟨_, rfl⟩
  rw [← hZ] at HPS
  rw [← hZ]
  clear hZ HBY HYP HT HF HBZ HZP HZs HPV z0 zf0
  obtain ⟨z0, zf0⟩ := one_cell HPS.out.pv
  have HFI := Lib.hid (find_any B hi seq ⟨by omega, hseq.2⟩ its HPS.out.ok.sorted HPS.out.ok.num a n cap HPS.out.len Z HPS.out.sb (RowN.of_own HPS.out.own) (by omega))
  go_wp2_with fail
  refine HFI.out.mono ?_
  rintro e w2 ⟨i, r, rfl, hin, hrr, hb2⟩
  have HIN0 := Lib.hid hin
  have htop := HPS.out.ok.top
  have hlen := HPS.out.len
  unfold num40 at htop
  have HP2 := Lib.hid (HPS.out.below hb2)
  clear hb2 HFI HPS z0 zf0 hrr
  have HPD := Lib.hid (HP2.out.below (Below.refl _ _).drew)
  have hi3 : i ≤ n := by have := HIN0.out.1; omega
  clear hin hlen
  have hn9 : n ≤ 900 := by omega
  have HKEEP : Hid (∀ W : World, W.heap[PV]? = some (.cells #[.pointer (some ⟨B, 0, none⟩)] 154 (0, 0)) → W.heap[PB]? = some (.cells #[.int .i64 c, .int .i64 v] 35 (0, 0)) → (fun w' => w'.cell? ⟨PV, 0, none⟩ = some (.pointer (some ⟨B, 0, none⟩)) ∧ w'.cell? ⟨PB, 0, none⟩ = some (.int .i64 c) ∧ w'.cell? ⟨PB, 1, none⟩ = some (.int .i64 v)) W) := fun W h1 h2 => by
   obtain ⟨q0, q1, _⟩ := two_cells h2
   exact ⟨(one_cell h1).1, q0, q1⟩
  have HKEEP2 : Hid (∀ W : World, W.heap[PV]? = some (.cells #[.pointer (some ⟨B, 0, none⟩)] 154 (0, 0)) → W.cell? ⟨PV, 0, none⟩ = some (.pointer (some ⟨B, 0, none⟩))) := fun W h1 => (one_cell h1).1
  obtain ⟨_, d1, _, _⟩ := two_cells HP2.out.sb
  have hmf : ∀ (fn : Fn) (first cap : Array Value) (w : World), (Instr.makeFunc fn first cap).run Tryz.prog w = .ok (.func fn first cap) w := fun _ _ _ _ => rfl
  go_upto_region 11 with fail
  refine wp_region_noPanic ?_
  refine wp_region_held_drew (S := (fun w' => w'.cell? ⟨PV, 0, none⟩ = some (.pointer (some ⟨B, 0, none⟩)) ∧ w'.cell? ⟨PB, 0, none⟩ = some (.int .i64 c) ∧ w'.cell? ⟨PB, 1, none⟩ = some (.int .i64 v))) (by kernel_rfl) ?_ (fun hHeld0 => ?_)
  · first | exact HKEEP.out _ HPD.out.pv HPD.out.pb | exact HKEEP.out _ HPY.out.pv HPY.out.pb | exact HKEEP.out _ HP3.out.1 HP3.out.2 | exact HKEEP.out _ (alloc_keep (w := w2.drew) HPD.out.pv _) (alloc_keep (w := w2.drew) HPD.out.pb _) | exact HKEEP.out _ HP4.out.pv HP4.out.pb
  refine wu 0 rfl ?_
  refine wu 1 rfl ?_
  refine wu 2 rfl ?_
  refine wu 3 rfl ?_
  refine wu 5 rfl ?_
  refine wu 6 rfl ?_
  refine wu 7 rfl ?_
  refine wu 8 rfl ?_
  refine wz 4 9 rfl (fun K hK => ?_) rfl fun K hK => ?_
  · skip
    go_simp
    refine hK.out _ _ ?_ (fun hHeld1 => ?_)
    · first | exact HKEEP.out _ HPD.out.pv HPD.out.pb | exact HKEEP.out _ HPY.out.pv HPY.out.pb | exact HKEEP.out _ HP3.out.1 HP3.out.2 | exact HKEEP.out _ (alloc_keep (w := w2.drew) HPD.out.pv _) (alloc_keep (w := w2.drew) HPD.out.pb _) | exact HKEEP.out _ HP4.out.pv HP4.out.pb
    clear hK K hHeld0
    (try simp only [Act.put]); (try simp only [List.setIfInBounds_toArray]); (try simp only [List.set])
    refine wy 9 rfl fun K hK => ?_
    go_simp
    refine hK.out _ _ ?_ (fun hHeld2 => ?_)
    · first | exact HKEEP.out _ HPD.out.pv HPD.out.pb | exact HKEEP.out _ HPY.out.pv HPY.out.pb | exact HKEEP.out _ HP3.out.1 HP3.out.2 | exact HKEEP.out _ (alloc_keep (w := w2.drew) HPD.out.pv _) (alloc_keep (w := w2.drew) HPD.out.pb _) | exact HKEEP.out _ HP4.out.pv HP4.out.pb
    clear hK K hHeld1
    (try simp only [Act.put]); (try simp only [List.setIfInBounds_toArray]); (try simp only [List.set])
    obtain ⟨Yb, hYb⟩ : ∃ Yb, Yb = (w2.alloc (.cells #[.int .i64 seq, .int .i64 c, .int .i64 v] 161)).drew := ⟨_, rfl⟩
    have hbYb : Below w2.heap.size w2 Yb := hYb ▸ (below_alloc (Below.refl _ _) _).drew
    have HPY := Lib.hid (HP2.out.below hbYb)
    have hYv : Yb.heap[w2.heap.size]? = some (.cells #[.int .i64 seq, .int .i64 c, .int .i64 v] 161 (0, 0)) := hYb ▸ heap_alloc_new w2 _
    have HIN := Lib.hid (insS_any base a n cap i (its.flatMap It.cells) [.int .i64 seq, .int .i64 c, .int .i64 v] w2.heap.size Yb HPY.out.own (allIntI its).one hYv rfl (fun u hu => by simp only [List.mem_cons, List.not_mem_nil, or_false] at hu; rcases hu with rfl | rfl | rfl <;> rfl) (fun g hg e => by have := (HP2.out.own.lt g.block (by rw [hg]; rfl)).2; omega) hi3 (by omega) HPY.out.bs)
    obtain ⟨_, d1b, _, _⟩ := two_cells HPY.out.sb
    rw [← hYb]
    clear hYb hbYb hYv
    refine wy 10 rfl fun K hK => ?_
    go_simp
    refine HIN.out.mono ?_
    rintro e w3 ⟨a3, cp3, rfl, hown3, hg3, hat3⟩
    have hi3' : (its.flatMap It.cells).take (i * 3) ++ [.int .i64 seq, .int .i64 c, .int .i64 v] ++ (its.flatMap It.cells).drop (i * 3) = (its.take i ++ [(⟨seq, c, v⟩ : It)] ++ its.drop i).flatMap It.cells := flatI_ins its i ⟨seq, c, v⟩
    rw [hi3'] at hown3
    have hlen3 : (its.take i ++ [(⟨seq, c, v⟩ : It)] ++ its.drop i).length = n + 1 := by have := HPY.out.len; simp only [List.length_append, List.length_take, List.length_drop, List.length_singleton]; omega
    have hok3 := HPY.out.ok.ins (x := ⟨seq, c, v⟩) ⟨by show (0 : Int) ≤ seq; omega, hseq.2⟩ HIN0.out HNO.out
    obtain ⟨q1, q2, q3, κ2, q4⟩ := HPY.out.ins hown3 hlen3 hok3 (Q' := fun q => Blkd (f id) q ∨ q = seq) (fun q hq => blk_ins (hq.imp (HPY.out.bk q) fun h => h)) hg3 hat3
    have HP3 := Lib.hid (And.intro q1 q2)
    have HP4 := Lib.hid q4
    obtain ⟨_, d1c, _, f1c⟩ := two_cells q3
    clear hown3 hg3 hat3 hok3 hlen3 hi3' q1 q2 q3 q4 HIN
    go_wp2_with fail
    refine hK.out _ _ ?_ (fun hHeld3 => ?_)
    · first | exact HKEEP.out _ HPD.out.pv HPD.out.pb | exact HKEEP.out _ HPY.out.pv HPY.out.pb | exact HKEEP.out _ HP3.out.1 HP3.out.2 | exact HKEEP.out _ (alloc_keep (w := w2.drew) HPD.out.pv _) (alloc_keep (w := w2.drew) HPD.out.pb _) | exact HKEEP.out _ HP4.out.pv HP4.out.pb
    clear hK K hHeld2
    (try simp only [Act.put]); (try simp only [List.setIfInBounds_toArray]); (try simp only [List.set])
    refine wu 11 rfl ?_
    refine wu 12 rfl ?_
    refine wy 13 rfl fun K hK => ?_
    go_simp
    refine hK.out _ _ ?_ (fun hHeld4 => ?_)
    · first | exact HKEEP.out _ HPD.out.pv HPD.out.pb | exact HKEEP.out _ HPY.out.pv HPY.out.pb | exact HKEEP.out _ HP3.out.1 HP3.out.2 | exact HKEEP.out _ (alloc_keep (w := w2.drew) HPD.out.pv _) (alloc_keep (w := w2.drew) HPD.out.pb _) | exact HKEEP.out _ HP4.out.pv HP4.out.pb
    clear hK K hHeld3
    (try simp only [Act.put]); (try simp only [List.setIfInBounds_toArray]); (try simp only [List.set])
    refine wpAnyH_done (by kernel_rfl) ?_ _
    refine NoPanic.normal ?_
    obtain ⟨W, hW⟩ : ∃ W, W = w3.setCell ⟨B, 1, none⟩ (.slice a3 (n + 1) cp3) := ⟨_, rfl⟩
    rw [← hW] at HP4
    have HW := Lib.hid hW
    clear hW
    go_upto_region 12 with fail
    rw [← HW.out]
    clear HW HP3 HPY d1b d1c f1c d1
    obtain ⟨e0, _, e0f, _⟩ := two_cells HP4.out.sb
    refine wp_region_noPanic ?_
    refine wp_region_held_drew (S := (fun w' => w'.cell? ⟨PV, 0, none⟩ = some (.pointer (some ⟨B, 0, none⟩)))) (by kernel_rfl) ?_ (fun hHeld0 => ?_)
    · first | exact HKEEP2.out _ HP4.out.pv | exact HKEEP2.out _ (HP4.out.top (max hi seq) (by omega) ⟨by omega, by omega⟩).pv
    refine wu 0 rfl ?_
    refine wu 1 rfl ?_
    refine wu 2 rfl ?_
    refine wu 3 rfl ?_
    refine wu 5 rfl ?_
    refine wy 4 rfl fun K hK => ?_
    go_simp
    refine hK.out _ _ ?_ (fun hHeld1 => ?_)
    · first | exact HKEEP2.out _ HP4.out.pv | exact HKEEP2.out _ (HP4.out.top (max hi seq) (by omega) ⟨by omega, by omega⟩).pv
    clear hK K hHeld0
    (try simp only [Act.put]); (try simp only [List.setIfInBounds_toArray]); (try simp only [List.set])
    refine wu 6 rfl ?_
    refine wu 7 rfl ?_
    refine wu 8 rfl ?_
    refine wy 9 rfl fun K hK => ?_
    go_simp
    refine hK.out _ _ ?_ (fun hHeld2 => ?_)
    · first | exact HKEEP2.out _ HP4.out.pv | exact HKEEP2.out _ (HP4.out.top (max hi seq) (by omega) ⟨by omega, by omega⟩).pv
    clear hK K hHeld1
    (try simp only [Act.put]); (try simp only [List.setIfInBounds_toArray]); (try simp only [List.set])
    refine wpAnyH_done (by kernel_rfl) ?_ _
    refine NoPanic.normal ?_
    obtain ⟨V, hV⟩ : ∃ V, V = (W.setCell ⟨B, 0, none⟩ (.int .i64 (max hi seq))).drew := ⟨_, rfl⟩
    obtain ⟨its3, HP5⟩ : ∃ its3, Hid (PutS κ w V κ2 T (cnt + 1) M D1 f1 id PV PB B (max hi seq) a3 (n + 1) cp3 base its3 c v f (fun q => Blkd (f id) q ∨ q = seq)) := ⟨_, hV ▸ (HP4.out.top (max hi seq) (by omega) ⟨by omega, by omega⟩).below (Below.refl _ _).drew⟩
    obtain ⟨g, rfl⟩ := own_some HP5.out.own (Nat.succ_pos _)
    have hkg := HP5.out.col g rfl
    have HDL := Lib.hid (sdel_any (max hi seq) ⟨by omega, by omega⟩ PV B (.slice (some ⟨g, 0, none⟩) (n + 1) cp3) base g (n + 1) cp3 its3 HP5.out.len V.drew HP5.out.own (by omega) HP5.out.pv HP5.out.sb (fun e => by have h1 := HP5.out.cpv; rw [e, hkg] at h1; omega) (fun e => by have h1 := HP5.out.cb; rw [e, hkg] at h1; omega))
    have HV := Lib.hid hV
    obtain ⟨k0, k1, _⟩ := two_cells HP5.out.sb
    clear hV hkg HP4 e0 e0f
    go_upto_region 13 with fail
    rw [← HV.out]
    clear HV
    refine wp_region_noPanic ?_
    refine wp_region_held_drew (S := (fun w' => w'.cell? ⟨PV, 0, none⟩ = some (.pointer (some ⟨B, 0, none⟩)))) (by kernel_rfl) ?_ (fun hHeld0 => ?_)
    · first | exact HKEEP2.out _ HP5.out.pv | exact HKEEP2.out _ HP6.out.1 | exact HKEEP2.out _ HP7.out.pv
    refine wu 0 rfl ?_
    refine wu 1 rfl ?_
    refine wu 2 rfl ?_
    refine wu 3 rfl ?_
    refine wu 5 rfl ?_
    refine wy 4 rfl fun K hK => ?_
    go_simp
    refine hK.out _ _ ?_ (fun hHeld1 => ?_)
    · first | exact HKEEP2.out _ HP5.out.pv | exact HKEEP2.out _ HP6.out.1 | exact HKEEP2.out _ HP7.out.pv
    clear hK K hHeld0
    (try simp only [Act.put]); (try simp only [List.setIfInBounds_toArray]); (try simp only [List.set])
    refine wy 6 rfl fun K hK => ?_
    go_simp
    refine HDL.out.mono ?_
    rintro e w4 ⟨k, rfl, hkn, hown4, hg4⟩
    have hkle : k ≤ n + 1 := by rw [← hkn, ← HP5.out.len]; exact List.length_filter_le _ _
    obtain ⟨q1, q2, q3, κ3, q4⟩ := (HP5.out.below (Below.refl _ _).drew).ins hown4 hkn (HP5.out.ok.fewer _) (fun q hq => (HP5.out.bk q hq).fewer) hg4 (.inl rfl)
    have HP6 := Lib.hid (And.intro q1 q2)
    have HP7 := Lib.hid q4
    obtain ⟨_, j1, _, jf1⟩ := two_cells q3
    clear hown4 hkn hg4 q1 q2 q3 q4 HDL
    go_wp2_with fail
    refine hK.out _ _ ?_ (fun hHeld2 => ?_)
    · first | exact HKEEP2.out _ HP5.out.pv | exact HKEEP2.out _ HP6.out.1 | exact HKEEP2.out _ HP7.out.pv
    clear hK K hHeld1
    (try simp only [Act.put]); (try simp only [List.setIfInBounds_toArray]); (try simp only [List.set])
    refine wu 7 rfl ?_
    refine wu 8 rfl ?_
    refine wy 9 rfl fun K hK => ?_
    go_simp
    refine hK.out _ _ ?_ (fun hHeld3 => ?_)
    · first | exact HKEEP2.out _ HP5.out.pv | exact HKEEP2.out _ HP6.out.1 | exact HKEEP2.out _ HP7.out.pv
    clear hK K hHeld2
    (try simp only [Act.put]); (try simp only [List.setIfInBounds_toArray]); (try simp only [List.set])
    refine wpAnyH_done (by kernel_rfl) ?_ _
    refine NoPanic.normal ?_
    have HFIN : Hid (post (.returned (.int .i64 0)) (w4.setCell ⟨B, 1, none⟩ (.slice (some ⟨g, 0, none⟩) k cp3))) := by show post _ _; rw [HPOST.out]; exact HP7.out.done (by omega) (fun q h => h)
    go_wp2_with fail
    exact HFIN.out
  · skip
    go_simp
    refine hK.out _ _ ?_ (fun hHeld5 => ?_)
    · first | exact HKEEP.out _ HPD.out.pv HPD.out.pb | exact HKEEP.out _ HPY.out.pv HPY.out.pb | exact HKEEP.out _ HP3.out.1 HP3.out.2 | exact HKEEP.out _ (alloc_keep (w := w2.drew) HPD.out.pv _) (alloc_keep (w := w2.drew) HPD.out.pb _) | exact HKEEP.out _ HP4.out.pv HP4.out.pb
    clear hK K hHeld0
    (try simp only [Act.put]); (try simp only [List.setIfInBounds_toArray]); (try simp only [List.set])
    obtain ⟨Yb, hYb⟩ : ∃ Yb, Yb = (w2.alloc (.cells #[.int .i64 seq, .int .i64 c, .int .i64 v] 161)).drew := ⟨_, rfl⟩
    have hbYb : Below w2.heap.size w2 Yb := hYb ▸ (below_alloc (Below.refl _ _) _).drew
    have HPY := Lib.hid (HP2.out.below hbYb)
    have hYv : Yb.heap[w2.heap.size]? = some (.cells #[.int .i64 seq, .int .i64 c, .int .i64 v] 161 (0, 0)) := hYb ▸ heap_alloc_new w2 _
    have HIN := Lib.hid (insS_any base a n cap i (its.flatMap It.cells) [.int .i64 seq, .int .i64 c, .int .i64 v] w2.heap.size Yb HPY.out.own (allIntI its).one hYv rfl (fun u hu => by simp only [List.mem_cons, List.not_mem_nil, or_false] at hu; rcases hu with rfl | rfl | rfl <;> rfl) (fun g hg e => by have := (HP2.out.own.lt g.block (by rw [hg]; rfl)).2; omega) hi3 (by omega) HPY.out.bs)
    obtain ⟨_, d1b, _, _⟩ := two_cells HPY.out.sb
    rw [← hYb]
    clear hYb hbYb hYv
    refine wy 4 rfl fun K hK => ?_
    go_simp
    refine hK.out _ _ ?_ (fun hHeld6 => ?_)
    · first | exact HKEEP.out _ HPD.out.pv HPD.out.pb | exact HKEEP.out _ HPY.out.pv HPY.out.pb | exact HKEEP.out _ HP3.out.1 HP3.out.2 | exact HKEEP.out _ (alloc_keep (w := w2.drew) HPD.out.pv _) (alloc_keep (w := w2.drew) HPD.out.pb _) | exact HKEEP.out _ HP4.out.pv HP4.out.pb
    clear hK K hHeld5
    (try simp only [Act.put]); (try simp only [List.setIfInBounds_toArray]); (try simp only [List.set])
    refine wy 10 rfl fun K hK => ?_
    go_simp
    refine HIN.out.mono ?_
    rintro e w3 ⟨a3, cp3, rfl, hown3, hg3, hat3⟩
    have hi3' : (its.flatMap It.cells).take (i * 3) ++ [.int .i64 seq, .int .i64 c, .int .i64 v] ++ (its.flatMap It.cells).drop (i * 3) = (its.take i ++ [(⟨seq, c, v⟩ : It)] ++ its.drop i).flatMap It.cells := flatI_ins its i ⟨seq, c, v⟩
    rw [hi3'] at hown3
    have hlen3 : (its.take i ++ [(⟨seq, c, v⟩ : It)] ++ its.drop i).length = n + 1 := by have := HPY.out.len; simp only [List.length_append, List.length_take, List.length_drop, List.length_singleton]; omega
    have hok3 := HPY.out.ok.ins (x := ⟨seq, c, v⟩) ⟨by show (0 : Int) ≤ seq; omega, hseq.2⟩ HIN0.out HNO.out
    obtain ⟨q1, q2, q3, κ2, q4⟩ := HPY.out.ins hown3 hlen3 hok3 (Q' := fun q => Blkd (f id) q ∨ q = seq) (fun q hq => blk_ins (hq.imp (HPY.out.bk q) fun h => h)) hg3 hat3
    have HP3 := Lib.hid (And.intro q1 q2)
    have HP4 := Lib.hid q4
    obtain ⟨_, d1c, _, f1c⟩ := two_cells q3
    clear hown3 hg3 hat3 hok3 hlen3 hi3' q1 q2 q3 q4 HIN
    go_wp2_with fail
    refine hK.out _ _ ?_ (fun hHeld7 => ?_)
    · first | exact HKEEP.out _ HPD.out.pv HPD.out.pb | exact HKEEP.out _ HPY.out.pv HPY.out.pb | exact HKEEP.out _ HP3.out.1 HP3.out.2 | exact HKEEP.out _ (alloc_keep (w := w2.drew) HPD.out.pv _) (alloc_keep (w := w2.drew) HPD.out.pb _) | exact HKEEP.out _ HP4.out.pv HP4.out.pb
    clear hK K hHeld6
    (try simp only [Act.put]); (try simp only [List.setIfInBounds_toArray]); (try simp only [List.set])
    refine wu 11 rfl ?_
    refine wu 12 rfl ?_
    refine wy 13 rfl fun K hK => ?_
    go_simp
    refine hK.out _ _ ?_ (fun hHeld8 => ?_)
    · first | exact HKEEP.out _ HPD.out.pv HPD.out.pb | exact HKEEP.out _ HPY.out.pv HPY.out.pb | exact HKEEP.out _ HP3.out.1 HP3.out.2 | exact HKEEP.out _ (alloc_keep (w := w2.drew) HPD.out.pv _) (alloc_keep (w := w2.drew) HPD.out.pb _) | exact HKEEP.out _ HP4.out.pv HP4.out.pb
    clear hK K hHeld7
    (try simp only [Act.put]); (try simp only [List.setIfInBounds_toArray]); (try simp only [List.set])
    refine wpAnyH_done (by kernel_rfl) ?_ _
    refine NoPanic.normal ?_
    obtain ⟨W, hW⟩ : ∃ W, W = w3.setCell ⟨B, 1, none⟩ (.slice a3 (n + 1) cp3) := ⟨_, rfl⟩
    rw [← hW] at HP4
    have HW := Lib.hid hW
    clear hW
    go_upto_region 12 with fail
    rw [← HW.out]
    clear HW HP3 HPY d1b d1c f1c d1
    obtain ⟨e0, _, e0f, _⟩ := two_cells HP4.out.sb
    refine wp_region_noPanic ?_
    refine wp_region_held_drew (S := (fun w' => w'.cell? ⟨PV, 0, none⟩ = some (.pointer (some ⟨B, 0, none⟩)))) (by kernel_rfl) ?_ (fun hHeld0 => ?_)
    · first | exact HKEEP2.out _ HP4.out.pv | exact HKEEP2.out _ (HP4.out.top (max hi seq) (by omega) ⟨by omega, by omega⟩).pv
    refine wu 0 rfl ?_
    refine wu 1 rfl ?_
    refine wu 2 rfl ?_
    refine wu 3 rfl ?_
    refine wu 5 rfl ?_
    refine wy 4 rfl fun K hK => ?_
    go_simp
    refine hK.out _ _ ?_ (fun hHeld1 => ?_)
    · first | exact HKEEP2.out _ HP4.out.pv | exact HKEEP2.out _ (HP4.out.top (max hi seq) (by omega) ⟨by omega, by omega⟩).pv
    clear hK K hHeld0
    (try simp only [Act.put]); (try simp only [List.setIfInBounds_toArray]); (try simp only [List.set])
    refine wu 6 rfl ?_
    refine wu 7 rfl ?_
    refine wu 8 rfl ?_
    refine wy 9 rfl fun K hK => ?_
    go_simp
    refine hK.out _ _ ?_ (fun hHeld2 => ?_)
    · first | exact HKEEP2.out _ HP4.out.pv | exact HKEEP2.out _ (HP4.out.top (max hi seq) (by omega) ⟨by omega, by omega⟩).pv
    clear hK K hHeld1
    (try simp only [Act.put]); (try simp only [List.setIfInBounds_toArray]); (try simp only [List.set])
    refine wpAnyH_done (by kernel_rfl) ?_ _
    refine NoPanic.normal ?_
    obtain ⟨V, hV⟩ : ∃ V, V = (W.setCell ⟨B, 0, none⟩ (.int .i64 (max hi seq))).drew := ⟨_, rfl⟩
    obtain ⟨its3, HP5⟩ : ∃ its3, Hid (PutS κ w V κ2 T (cnt + 1) M D1 f1 id PV PB B (max hi seq) a3 (n + 1) cp3 base its3 c v f (fun q => Blkd (f id) q ∨ q = seq)) := ⟨_, hV ▸ (HP4.out.top (max hi seq) (by omega) ⟨by omega, by omega⟩).below (Below.refl _ _).drew⟩
    obtain ⟨g, rfl⟩ := own_some HP5.out.own (Nat.succ_pos _)
    have hkg := HP5.out.col g rfl
    have HDL := Lib.hid (sdel_any (max hi seq) ⟨by omega, by omega⟩ PV B (.slice (some ⟨g, 0, none⟩) (n + 1) cp3) base g (n + 1) cp3 its3 HP5.out.len V.drew HP5.out.own (by omega) HP5.out.pv HP5.out.sb (fun e => by have h1 := HP5.out.cpv; rw [e, hkg] at h1; omega) (fun e => by have h1 := HP5.out.cb; rw [e, hkg] at h1; omega))
    have HV := Lib.hid hV
    obtain ⟨k0, k1, _⟩ := two_cells HP5.out.sb
    clear hV hkg HP4 e0 e0f
    go_upto_region 13 with fail
    rw [← HV.out]
    clear HV
    refine wp_region_noPanic ?_
    refine wp_region_held_drew (S := (fun w' => w'.cell? ⟨PV, 0, none⟩ = some (.pointer (some ⟨B, 0, none⟩)))) (by kernel_rfl) ?_ (fun hHeld0 => ?_)
    · first | exact HKEEP2.out _ HP5.out.pv | exact HKEEP2.out _ HP6.out.1 | exact HKEEP2.out _ HP7.out.pv
    refine wu 0 rfl ?_
    refine wu 1 rfl ?_
    refine wu 2 rfl ?_
    refine wu 3 rfl ?_
    refine wu 5 rfl ?_
    refine wy 4 rfl fun K hK => ?_
    go_simp
    refine hK.out _ _ ?_ (fun hHeld1 => ?_)
    · first | exact HKEEP2.out _ HP5.out.pv | exact HKEEP2.out _ HP6.out.1 | exact HKEEP2.out _ HP7.out.pv
    clear hK K hHeld0
    (try simp only [Act.put]); (try simp only [List.setIfInBounds_toArray]); (try simp only [List.set])
    refine wy 6 rfl fun K hK => ?_
    go_simp
    refine HDL.out.mono ?_
    rintro e w4 ⟨k, rfl, hkn, hown4, hg4⟩
    have hkle : k ≤ n + 1 := by rw [← hkn, ← HP5.out.len]; exact List.length_filter_le _ _
    obtain ⟨q1, q2, q3, κ3, q4⟩ := (HP5.out.below (Below.refl _ _).drew).ins hown4 hkn (HP5.out.ok.fewer _) (fun q hq => (HP5.out.bk q hq).fewer) hg4 (.inl rfl)
    have HP6 := Lib.hid (And.intro q1 q2)
    have HP7 := Lib.hid q4
    obtain ⟨_, j1, _, jf1⟩ := two_cells q3
    clear hown4 hkn hg4 q1 q2 q3 q4 HDL
    go_wp2_with fail
    refine hK.out _ _ ?_ (fun hHeld2 => ?_)
    · first | exact HKEEP2.out _ HP5.out.pv | exact HKEEP2.out _ HP6.out.1 | exact HKEEP2.out _ HP7.out.pv
    clear hK K hHeld1
    (try simp only [Act.put]); (try simp only [List.setIfInBounds_toArray]); (try simp only [List.set])
    refine wu 7 rfl ?_
    refine wu 8 rfl ?_
    refine wy 9 rfl fun K hK => ?_
    go_simp
    refine hK.out _ _ ?_ (fun hHeld3 => ?_)
    · first | exact HKEEP2.out _ HP5.out.pv | exact HKEEP2.out _ HP6.out.1 | exact HKEEP2.out _ HP7.out.pv
    clear hK K hHeld2
    (try simp only [Act.put]); (try simp only [List.setIfInBounds_toArray]); (try simp only [List.set])
    refine wpAnyH_done (by kernel_rfl) ?_ _
    refine NoPanic.normal ?_
    have HFIN : Hid (post (.returned (.int .i64 0)) (w4.setCell ⟨B, 1, none⟩ (.slice (some ⟨g, 0, none⟩) k cp3))) := by show post _ _; rw [HPOST.out]; exact HP7.out.done (by omega) (fun q h => h)
    go_wp2_with fail
    exact HFIN.out
end Go.Proofs.YtpknmfmpiachkaaGreat
