/- A table of keys: its search. -/
import Derived.Test.YtpknmfmpiachkaaGreatSub3
import Derived.Shelf.SlCmpFuncs.BinarySearchFunc
import Derived.Lib.AppendZerosOnto
import Derived.Lib.Overlaps
import Derived.Laws.CopyOwn
namespace Go.Proofs.YtpknmfmpiachkaaGreat
open Go.RowKit
structure VI where
 key : Nat
 num : Int
def VI.cells (v : VI) : List Value := [.float .f64 v.key, .int .i64 v.num]
theorem dropV (vs : List VI) : ∀ i, (vs.flatMap VI.cells).drop (i * 2) = (vs.drop i).flatMap VI.cells := by
 induction vs with
 | nil => intro i; simp
 | cons x r ih =>
   intro i
   cases i with
   | zero => simp
   | succ i =>
     rw [List.drop_succ_cons, ← ih i, List.flatMap_cons, show (i + 1) * 2 = 2 + i * 2 by omega, ← List.drop_drop]
     congr 1
theorem vi_at {w : World} {a : Option Addr} {n : Nat} {vs : List VI} (hr : RowN w a 2 n (vs.flatMap VI.cells)) (hs : vs.length = n) (k : Nat) (hk : k < n) (v : VI) (he : vs[k]? = some v) :
 ∃ b off, a = some ⟨b, off, none⟩ ∧ w.cell? ⟨b, off + k * 2, none⟩ = some (.float .f64 v.key) ∧ w.cell? ⟨b, off + k * 2 + 1, none⟩ = some (.int .i64 v.num) := by
 obtain ⟨b, off, ha, hc⟩ := hr.2 (by omega)
 have hcell : ∀ i u, i < 2 → v.cells[i]? = some u → (vs.flatMap VI.cells)[k * 2 + i]? = some u := fun i u hi hu => by
  have h1 : ((vs.flatMap VI.cells).drop (k * 2))[i]? = some u := by
   rw [dropV, List.drop_eq_getElem_cons (show k < vs.length by omega), List.flatMap_cons, List.getElem?_append_left (by simp [VI.cells]; omega)]
   have : vs[k]'(by omega) = v := (List.getElem?_eq_some_iff.1 he).2
   rw [this]
   exact hu
  rwa [List.getElem?_drop] at h1
 exact ⟨b, off, ha, hc _ _ (hcell 0 _ (by omega) rfl), by rw [Nat.add_assoc]; exact hc _ _ (hcell 1 _ (by omega) rfl)⟩
set_option maxHeartbeats 800000 in
theorem placeFn_any (v : VI) (hv : v.key < 18446744073709551616) (key : Nat) (hkey : key < 18446744073709551616) (w : World) : Calls Tryz.prog 139 #[.agg #[.float .f64 v.key, .int .i64 v.num], .float .f64 key] w (RetBox w (.int .i64 (Flo.cmp v.key key))) := by
 have h := fun w => cmp_any v.key key w hv hkey
 have H := Lib.hid h
 clear h
 go_enter Tryz.func139, Tryz.ntmps139
 go_wp2_with fail
 refine (H.out _).mono ?_
 rintro e w' ⟨rfl, rfl⟩
 go_wp2_with fail
 go_ret
 exact ⟨rfl, below_alloc (Below.refl _ _) _⟩
def Turns {α : Type} (c : α → Int) (l : List α) (p : Nat) : Prop := p ≤ l.length ∧ ∀ (k : Nat) x, l[k]? = some x → (c x < 0 ↔ k < p)
def foundAt {α : Type} (c : α → Int) (l : List α) (p : Nat) : Bool := match l[p]? with
 | some x => decide (c x = 0)
 | none => false
set_option maxRecDepth 100000 in
set_option maxHeartbeats 4000000 in
theorem vsearch_any (key : Nat) (hkey : key < 18446744073709551616) (vs : List VI) (hvs : ∀ v ∈ vs, v.key < 18446744073709551616) (p : Nat) (hp : Turns (fun v : VI => Flo.cmp v.key key) vs p) (a : Option Addr) (n cap : Nat) (w : World) (hrow : RowN w a 2 n (vs.flatMap VI.cells)) (hl : vs.length = n) (hn : n ≤ 1000000000000) :
 Calls Tryz.prog 138 #[.slice a n cap, .float .f64 key, .func (.func 139) #[] #[]] w (RetBox w (.tuple #[.int .i64 (p : Nat), .bool (foundAt (fun v : VI => Flo.cmp v.key key) vs p)])) := by
 have hpn := hp.1
 rw [hl] at hpn
 have HP := Lib.hid hp.2
 have HROW := Lib.hid hrow
 have HL := Lib.hid hl
 have HV := Lib.hid hvs
 obtain ⟨F, hF⟩ : ∃ F, F = foundAt (fun v : VI => Flo.cmp v.key key) vs p := ⟨_, rfl⟩
 rw [← hF]
 unfold foundAt at hF
 have HF := Lib.hid hF
 clear hp hrow hl hvs hF
 go_enter Tryz.func138, Tryz.ntmps138
 go_wp2_with fail
 go_loopw [9, 10] (fun s9 s10 wr => ∃ lo hi : Nat, s9 = .int .i64 lo ∧ s10 = .int .i64 hi ∧ lo ≤ p ∧ p ≤ hi ∧ hi ≤ n ∧ Hid (Below w.heap.size w wr)) (fun s9 s10 _ => (intOf s10).toNat - (intOf s9).toNat)
 case atStart => exact ⟨0, n, rfl, rfl, Nat.zero_le _, hpn, Nat.le_refl _, Below.refl _ _⟩
 case round =>
  obtain ⟨lo, hi, rfl, rfl, hlp, hph, hin, HB⟩ := hrel
  by_cases hlt : lo < hi
  · obtain ⟨v, hv⟩ : ∃ v, vs[(lo + hi) / 2]? = some v := ⟨_, List.getElem?_eq_getElem (by rw [HL.out]; omega)⟩
    obtain ⟨b, off, rfl, e0, e1⟩ := vi_at (HROW.out.below HB.out) HL.out ((lo + hi) / 2) (by omega) v hv
    have hc := placeFn_any v (HV.out v (List.mem_of_getElem? hv)) key hkey
    have ht := HP.out _ v hv
    obtain ⟨c, hcc⟩ : ∃ c, c = Flo.cmp v.key key := ⟨_, rfl⟩
    rw [← hcc] at hc ht
    have HC := Lib.hid hc
    have HT := Lib.hid ht
    clear hv hc hcc ht
    by_cases hyx : c < 0
    · have hq : (lo + hi) / 2 < p := HT.out.1 hyx
      go_wp2_with fail
      refine (HC.out _).mono ?_
      rintro e w1 ⟨rfl, hb1⟩
      have HB1 := Lib.hid (below_then HB.out hb1)
      clear hb1
      go_wp2_with fail
      go_roundw
      case rel => exact ⟨(lo + hi) / 2 + 1, hi, by rw [show ((lo : Int) + (hi : Int)) / 2 + 1 = (((lo + hi) / 2 + 1 : Nat) : Int) by omega], rfl, by omega, hph, hin, HB1.out⟩
      case measure => simp [intOf]; omega
    · have hq : ¬ (lo + hi) / 2 < p := fun h => hyx (HT.out.2 h)
      go_wp2_with fail
      refine (HC.out _).mono ?_
      rintro e w1 ⟨rfl, hb1⟩
      have HB1 := Lib.hid (below_then HB.out hb1)
      clear hb1
      go_wp2_with fail
      go_roundw
      case rel => exact ⟨lo, (lo + hi) / 2, rfl, by rw [show ((lo : Int) + (hi : Int)) / 2 = (((lo + hi) / 2 : Nat) : Int) by omega], hlp, by omega, by omega, HB1.out⟩
      case measure => simp [intOf]; omega
  · obtain rfl : lo = p := by omega
    by_cases hnp : lo < n
    · obtain ⟨v, hv⟩ : ∃ v, vs[lo]? = some v := ⟨_, List.getElem?_eq_getElem (by rw [HL.out]; exact hnp)⟩
      obtain ⟨b, off, rfl, e0, e1⟩ := vi_at (HROW.out.below HB.out) HL.out lo hnp v hv
      have hc := placeFn_any v (HV.out v (List.mem_of_getElem? hv)) key hkey
      have hf := HF.out
      rw [hv] at hf
      replace hf : F = decide (Flo.cmp v.key key = 0) := hf
      obtain ⟨c, hcc⟩ : ∃ c, c = Flo.cmp v.key key := ⟨_, rfl⟩
      rw [← hcc] at hc hf
      have HC := Lib.hid hc
      have HF2 : Hid ((c == 0) = F) := by show _ = _; rw [hf, Bool.eq_iff_iff, beq_iff_eq, decide_eq_true_eq]
      have hnat : ((lo : Int)).toNat = lo := by omega
      have h1 : (lo : Int) < (n : Int) := by omega
      have h0 : (0 : Int) ≤ (lo : Int) := by omega
      clear hv hc hcc hf
      go_wp2_with fail
      refine (HC.out _).mono ?_
      rintro e w1 ⟨rfl, hb1⟩
      have HB1 := Lib.hid (below_then HB.out hb1)
      clear hb1
      go_wp2_with fail
      go_ret2
      exact ⟨by rw [← HF2.out]; rfl, HB1.out⟩
    · have hnone : vs[lo]? = none := List.getElem?_eq_none (by rw [HL.out]; omega)
      have hf := HF.out
      rw [hnone] at hf
      simp only at hf
      have HF2 := Lib.hid hf
      have h1 : ¬ (lo : Int) < (n : Int) := by omega
      clear hnone hf
      go_wp2_with fail
      go_ret2
      exact ⟨by rw [HF2.out]; rfl, HB.out⟩
end Go.Proofs.YtpknmfmpiachkaaGreat
namespace Go.Proofs.YtpknmfmpiachkaaGreat
open Go.RowKit
theorem splice_cons {α : Type} (L : List α) (off : Nat) (v : α) (r : List α) (h : off < L.length) : splice (L.set off v) (off + 1) r = splice L off (v :: r) := by
 unfold splice
 rw [List.take_add_one, List.getElem?_set_self h, Option.toList_some, List.take_set_of_le (Nat.le_refl _), List.drop_set_of_lt (by omega), List.length_cons]
 simp only [List.append_assoc, List.cons_append, List.nil_append]
 rw [show off + 1 + r.length = off + (r.length + 1) by omega]
theorem setCells_block (g : Nat) (t : TypeId) (fr : Nat × Nat) : ∀ (cs : List Value) (off : Nat) (w : World) (cur : List Value), w.heap[g]? = some (.cells cur.toArray t fr) → off + cs.length ≤ cur.length → (w.setCells g off cs).heap[g]? = some (.cells (splice cur off cs).toArray t fr)
 | [], off, w, cur, h, _ => by
   unfold splice
   simpa [World.setCells] using h
 | v :: r, off, w, cur, h, hl => by
   rw [List.length_cons] at hl
   rw [World.setCells]
   have h1 := set_block (i := off) h v
   rw [List.setIfInBounds_toArray] at h1
   rw [setCells_block g t fr r (off + 1) _ (cur.set off v) h1 (by rw [List.length_set]; omega), splice_cons cur off v r (by omega)]
theorem setCells_touch (g : Nat) : ∀ (cs : List Value) (off : Nat) (w : World), Touch [g] w (w.setCells g off cs)
 | [], _, _ => Touch.refl _ _
 | v :: r, off, w => by
   rw [World.setCells]
   exact (Touch.set w g off v (by simp)).trans (setCells_touch g r (off + 1) _)
theorem run_copyK {P : Program} (w : World) (dT sT ty elem : TypeId) (size b o dLen dCap : Nat) (a : Addr) (sLen sCap : Nat) (cs : List Value)
 (hu : P.underlying dT = some (.slice elem)) (hs : (P.info? elem).map (·.size) = some size) (hn : cs.length = Nat.min sLen dLen * size)
 (hsrc : ∀ j v, cs[j]? = some v → w.cell? (a.add j) = some v) (hc : ∀ j, j < cs.length → (w.cell? ⟨b, o + j, none⟩).isSome = true) (hf : ∀ j, j < cs.length → w.frozen? ⟨b, o + j, none⟩ = false) (h1 : ∀ v ∈ cs, v.oneCell' = true) :
 (Builtin.copy_ #[dT, sT] ty #[.slice (some ⟨b, o, none⟩) dLen dCap, .slice (some a) sLen sCap]).run P w = .ok (goInt (Nat.min sLen dLen)) (w.setCells b o cs) := by
 have hl := run_loadCells_list (P := P) w a cs hsrc
 have hst := run_storeCells_cells (P := P) b o cs 0 w (by simpa using hc) (by simpa using hf) h1
 cases hq : P.info? elem with
 | none => simp [hq] at hs
 | some i =>
   have hi : i.size = size := by simpa [hq] using hs
   simp [Builtin.copy_, run_underlying hu, Builtin.lenOf, Builtin.firstCells, sizeOf, typeInfo, hq, hi, ← hn, hl, hst]
theorem wpList_copyR {P : Program} (w : World) {ops : Array Oper} {rest : List Oper} {o : Oper} {a : Act} {Q : Exit → Act → World → Prop} (hgd : o.guard = none) (d s : Operand) (t t' : TypeId)
 (ho : o.op = .call { callee := .builtin .copy, args := #[d, s], argTypes := #[t, t'] }) (v u : Value) (hd : a.eval d = v) (hs : a.eval s = u) {v' : Value} {w' : World}
 (hr : (Builtin.copy_ #[t, t'] o.type #[v, u]).run P w = .ok v' w') (h : wpList P ops Q rest (a.put o.dst v') w') : wpList P ops Q (o :: rest) a w := by
 refine wpList_plain hgd fun K hK => ?_
 unfold Oper.wp execOp
 simp only [ho, resolve, invoke, builtin, Sem.run_bind, Sem.run_pure, Result.andThen_ok, List.map_toArray, List.map_cons, List.map_nil, hd, hs, hr]
 exact hK _ _ h
def InsPost (base : Nat) (E : TypeId) (size : Nat) (w : World) (ao : Option Addr) (n cap i : Nat) (xs vs : List Value) (e : Ending) (w' : World) : Prop :=
 ∃ ao' cap', e = .returned (.slice ao' (n + 1) cap') ∧ w'.ownsRow base E size (.slice ao' (n + 1) cap') (n + 1) (xs.take (i * size) ++ vs ++ xs.drop (i * size)) ∧ w.grownBy w' (Value.ownBlock (.slice ao n cap)) ∧
  (Value.ownBlock (.slice ao' (n + 1) cap') = Value.ownBlock (.slice ao n cap) ∨ ∃ g, Value.ownBlock (.slice ao' (n + 1) cap') = some g ∧ w.heap.size ≤ g)
end Go.Proofs.YtpknmfmpiachkaaGreat
