/- Transactions in a history; IndexFunc and ContainsFunc at them, and at numbers. -/
import Derived.Test.YtpknmfmpiachkaaGreatSub3
import Derived.Test.YtpknmfmpiachkaaGreatCert1
import Derived.Deep.DeepCutAuto
import Derived.Deep.LoopGhost
namespace Go.Proofs.YtpknmfmpiachkaaGreat
open Go.RowKit
structure DoneV where
 num : Int
 m : SubM
def DoneV.cells (d : DoneV) : List Value := [.int .i64 d.num, .int .i64 d.m.s.session, .int .i64 d.m.s.seq, .int .i64 d.m.s.snap, .slice d.m.ra d.m.s.reads.length d.m.rc, .slice d.m.sa d.m.s.spans.length d.m.sc, .slice d.m.wa d.m.s.writes.length d.m.wc]
def DoneV.agg (d : DoneV) : Value := .agg #[.int .i64 d.num, .int .i64 d.m.s.session, .int .i64 d.m.s.seq, .int .i64 d.m.s.snap, .slice d.m.ra d.m.s.reads.length d.m.rc, .slice d.m.sa d.m.s.spans.length d.m.sc, .slice d.m.wa d.m.s.writes.length d.m.wc]
theorem dropD (vs : List DoneV) : ∀ i, (vs.flatMap DoneV.cells).drop (i * 7) = (vs.drop i).flatMap DoneV.cells := by
 induction vs with
 | nil => intro i; simp
 | cons x r ih =>
   intro i
   cases i with
   | zero => simp
   | succ i =>
     rw [List.drop_succ_cons, ← ih i, List.flatMap_cons, show (i + 1) * 7 = 7 + i * 7 by omega, ← List.drop_drop]
     congr 1
theorem done_at {w : World} {a : Option Addr} {n : Nat} {vs : List DoneV} (hr : RowN w a 7 n (vs.flatMap DoneV.cells)) (hs : vs.length = n) (k : Nat) (hk : k < n) (v : DoneV) (he : vs[k]? = some v) :
 ∃ b off, a = some ⟨b, off, none⟩ ∧ w.cell? ⟨b, off + k * 7, none⟩ = some (.int .i64 v.num) ∧ w.cell? ⟨b, off + k * 7 + 1, none⟩ = some (.int .i64 v.m.s.session) ∧ w.cell? ⟨b, off + k * 7 + 2, none⟩ = some (.int .i64 v.m.s.seq) ∧ w.cell? ⟨b, off + k * 7 + 3, none⟩ = some (.int .i64 v.m.s.snap) ∧ w.cell? ⟨b, off + k * 7 + 4, none⟩ = some (.slice v.m.ra v.m.s.reads.length v.m.rc) ∧ w.cell? ⟨b, off + k * 7 + 5, none⟩ = some (.slice v.m.sa v.m.s.spans.length v.m.sc) ∧ w.cell? ⟨b, off + k * 7 + 6, none⟩ = some (.slice v.m.wa v.m.s.writes.length v.m.wc) := by
 obtain ⟨b, off, ha, hc⟩ := hr.2 (by omega)
 have hcell : ∀ i u, v.cells[i]? = some u → w.cell? ⟨b, off + k * 7 + i, none⟩ = some u := fun i u hu => by
  have hi : i < 7 := (List.getElem?_eq_some_iff.1 hu).1
  have : (vs.flatMap DoneV.cells)[k * 7 + i]? = some u := by
   have h1 : ((vs.flatMap DoneV.cells).drop (k * 7))[i]? = some u := by
    rw [dropD, List.drop_eq_getElem_cons (show k < vs.length by omega), List.flatMap_cons, List.getElem?_append_left (by simp [DoneV.cells]; omega)]
    have : vs[k]'(by omega) = v := (List.getElem?_eq_some_iff.1 he).2
    rw [this]
    exact hu
   rwa [List.getElem?_drop] at h1
  rw [Nat.add_assoc]
  exact hc _ _ this
 exact ⟨b, off, ha, hcell 0 _ rfl, hcell 1 _ rfl, hcell 2 _ rfl, hcell 3 _ rfl, hcell 4 _ rfl, hcell 5 _ rfl, hcell 6 _ rfl⟩
theorem done_block {w : World} {B : Nat} {d : DoneV} (h : w.heap[B]? = some (.cells d.cells.toArray 40 (0, 0))) :
 w.cell? ⟨B, 0, none⟩ = some (.int .i64 d.num) ∧ w.cell? ⟨B, 1, none⟩ = some (.int .i64 d.m.s.session) ∧ w.cell? ⟨B, 2, none⟩ = some (.int .i64 d.m.s.seq) ∧ w.cell? ⟨B, 3, none⟩ = some (.int .i64 d.m.s.snap) ∧ w.cell? ⟨B, 4, none⟩ = some (.slice d.m.ra d.m.s.reads.length d.m.rc) ∧ w.cell? ⟨B, 5, none⟩ = some (.slice d.m.sa d.m.s.spans.length d.m.sc) ∧ w.cell? ⟨B, 6, none⟩ = some (.slice d.m.wa d.m.s.writes.length d.m.wc) := by
 refine ⟨?_, ?_, ?_, ?_, ?_, ?_, ?_⟩ <;> simp [World.cell?, h, DoneV.cells]
def cellsI (l : List Int) : List Value := l.map (Value.int .i64)
theorem cellsI_len (l : List Int) : (cellsI l).length = l.length := by simp [cellsI]
theorem int_at {w : World} {a : Option Addr} {n : Nat} {vs : List Int} (hr : RowN w a 1 n (cellsI vs)) (k : Nat) (hk : k < n) (v : Int) (he : vs[k]? = some v) :
 ∃ b off, a = some ⟨b, off, none⟩ ∧ w.cell? ⟨b, off + k, none⟩ = some (.int .i64 v) := by
 obtain ⟨b, off, ha, hc⟩ := hr.2 (by omega)
 exact ⟨b, off, ha, hc k _ (by unfold cellsI; rw [List.getElem?_map, he]; rfl)⟩
set_option maxRecDepth 100000 in
set_option maxHeartbeats 3200000 in
theorem indexD_any (f : FuncId) (cb : Array Value) (p : DoneV → Bool) (ws : List DoneV) (a : Option Addr) (n cap : Nat) (w : World) (hrow : RowN w a 7 n (ws.flatMap DoneV.cells)) (hl : ws.length = n) (hn : n ≤ 1000000000000)
 (eg : ∀ args w, (callFunc f args).run Tryz.prog w = .ok (.enter f args) w) (hp : ∀ x ∈ ws, ∀ W, Below w.heap.size w W → Calls Tryz.prog f (#[x.agg] ++ cb) W (RetBox W (.bool (p x)))) :
 Calls Tryz.prog 67 #[.slice a n cap, .func (.func f) #[] cb] w (RetBox w (.int .i64 (idxOf p ws))) := by
 have HROW := Lib.hid hrow
 have HL := Lib.hid hl
 have HP := Lib.hid hp
 clear hrow hl hp
 go_enter Tryz.func67, Tryz.ntmps67
 go_wp2_with fail
 go_loopw [8] (fun i wr => ∃ k : Nat, i = .int .i64 k ∧ k ≤ n ∧ Hid (∀ (j : Nat) y, j < k → ws[j]? = some y → p y = false) ∧ Hid (Below w.heap.size w wr)) (fun i _ => n - (intOf i).toNat)
 case atStart => exact ⟨0, rfl, Nat.zero_le _, (fun j y hj => absurd hj (by omega)), Below.refl _ _⟩
 case round =>
  obtain ⟨k, rfl, hk, HNO, HB⟩ := hrel
  by_cases hlt : k < n
  · obtain ⟨x, hx⟩ : ∃ x, ws[k]? = some x := ⟨_, List.getElem?_eq_getElem (by rw [HL.out]; exact hlt)⟩
    obtain ⟨b, off, rfl, e0, e1, e2, e3, e4, e5, e6⟩ := done_at (HROW.out.below HB.out) HL.out k hlt x hx
    have hc := HP.out x (List.mem_of_getElem? hx)
    have hkn : (k : Int) < (n : Int) := by omega
    have hk0 : (0 : Int) ≤ (k : Int) := by omega
    have hnat : ((k : Int)).toNat = k := by omega
    have HX := Lib.hid hx
    unfold DoneV.agg at hc
    have HC := Lib.hid hc
    clear hx hc
    cases hpx : p x with
    | true =>
      rw [hpx] at HC
      have HPX := Lib.hid hpx
      clear hpx
      go_wp2_with fail
      refine (HC.out _ HB.out).mono ?_
      rintro e w1 ⟨rfl, hb1⟩
      have HB1 := Lib.hid (below_then HB.out hb1)
      clear hb1
      go_wp2_with fail
      go_ret
      exact ⟨ret_int (idxOf_some HX.out HPX.out HNO.out).symm, HB1.out⟩
    | false =>
      rw [hpx] at HC
      have HPX := Lib.hid hpx
      clear hpx
      go_wp2_with fail
      refine (HC.out _ HB.out).mono ?_
      rintro e w1 ⟨rfl, hb1⟩
      have HB1 := Lib.hid (below_then HB.out hb1)
      clear hb1
      go_wp2_with fail
      go_roundw
      case rel =>
       refine ⟨k + 1, by go_num, by omega, ?_, HB1.out⟩
       intro j y hj hy
       by_cases h : j < k
       · exact HNO.out j y h hy
       · obtain rfl : j = k := by omega
         rw [HX.out] at hy
         injection hy with hy
         rw [← hy]; exact HPX.out
      case measure => simp [intOf]; omega
  · go_wp2_with fail
    go_ret
    exact ⟨ret_int (idxOf_none (p := p) (l := ws) (fun j y hy => HNO.out j y (by have := (List.getElem?_eq_some_iff.1 hy).1; rw [HL.out] at this; omega) hy)).symm, HB.out⟩
set_option maxRecDepth 100000 in
set_option maxHeartbeats 1600000 in
theorem containsD_any (f : FuncId) (cb : Array Value) (p : DoneV → Bool) (ws : List DoneV) (a : Option Addr) (n cap : Nat) (w : World) (hrow : RowN w a 7 n (ws.flatMap DoneV.cells)) (hl : ws.length = n) (hn : n ≤ 1000000000000)
 (eg : ∀ args w, (callFunc f args).run Tryz.prog w = .ok (.enter f args) w) (hp : ∀ x ∈ ws, ∀ W, Below w.heap.size w W → Calls Tryz.prog f (#[x.agg] ++ cb) W (RetBox W (.bool (p x)))) :
 Calls Tryz.prog 29 #[.slice a n cap, .func (.func f) #[] cb] w (RetBox w (.bool (ws.any p))) := by
 have h := indexD_any f cb p ws a n cap w hrow hl hn eg hp
 have ha := idxOf_any p ws
 obtain ⟨i, hi⟩ : ∃ i, i = idxOf p ws := ⟨_, rfl⟩
 rw [← hi] at h ha
 have H := Lib.hid h
 have HA := Lib.hid ha
 clear h ha hrow hl hp hi eg
 go_enter Tryz.func29, Tryz.ntmps29
 go_wp2_with fail
 refine H.out.mono ?_
 rintro e w1 ⟨rfl, hb1⟩
 have HB1 := Lib.hid hb1
 clear hb1
 go_wp2_with fail
 go_ret
 exact ⟨by rw [← HA.out]; rfl, HB1.out⟩
set_option maxRecDepth 100000 in
set_option maxHeartbeats 3200000 in
theorem indexI_any (f : FuncId) (cb : Array Value) (p : Int → Bool) (ws : List Int) (a : Option Addr) (n cap : Nat) (w : World) (hrow : RowN w a 1 n (cellsI ws)) (hl : ws.length = n) (hn : n ≤ 1000000000000)
 (eg : ∀ args w, (callFunc f args).run Tryz.prog w = .ok (.enter f args) w) (hp : ∀ x ∈ ws, ∀ W, Below w.heap.size w W → Calls Tryz.prog f (#[.int .i64 x] ++ cb) W (RetBox W (.bool (p x)))) :
 Calls Tryz.prog 64 #[.slice a n cap, .func (.func f) #[] cb] w (RetBox w (.int .i64 (idxOf p ws))) := by
 have HROW := Lib.hid hrow
 have HL := Lib.hid hl
 have HP := Lib.hid hp
 clear hrow hl hp
 go_enter Tryz.func64, Tryz.ntmps64
 go_wp2_with fail
 go_loopw [8] (fun i wr => ∃ k : Nat, i = .int .i64 k ∧ k ≤ n ∧ Hid (∀ (j : Nat) y, j < k → ws[j]? = some y → p y = false) ∧ Hid (Below w.heap.size w wr)) (fun i _ => n - (intOf i).toNat)
 case atStart => exact ⟨0, rfl, Nat.zero_le _, (fun j y hj => absurd hj (by omega)), Below.refl _ _⟩
 case round =>
  obtain ⟨k, rfl, hk, HNO, HB⟩ := hrel
  by_cases hlt : k < n
  · obtain ⟨x, hx⟩ : ∃ x, ws[k]? = some x := ⟨_, List.getElem?_eq_getElem (by rw [HL.out]; exact hlt)⟩
    obtain ⟨b, off, rfl, e0⟩ := int_at (HROW.out.below HB.out) k hlt x hx
    have hc := HP.out x (List.mem_of_getElem? hx)
    have hkn : (k : Int) < (n : Int) := by omega
    have hk0 : (0 : Int) ≤ (k : Int) := by omega
    have hnat : ((k : Int)).toNat = k := by omega
    have HX := Lib.hid hx
    have HC := Lib.hid hc
    clear hx hc
    cases hpx : p x with
    | true =>
      rw [hpx] at HC
      have HPX := Lib.hid hpx
      clear hpx
      go_wp2_with fail
      refine (HC.out _ HB.out).mono ?_
      rintro e w1 ⟨rfl, hb1⟩
      have HB1 := Lib.hid (below_then HB.out hb1)
      clear hb1
      go_wp2_with fail
      go_ret
      exact ⟨ret_int (idxOf_some HX.out HPX.out HNO.out).symm, HB1.out⟩
    | false =>
      rw [hpx] at HC
      have HPX := Lib.hid hpx
      clear hpx
      go_wp2_with fail
      refine (HC.out _ HB.out).mono ?_
      rintro e w1 ⟨rfl, hb1⟩
      have HB1 := Lib.hid (below_then HB.out hb1)
      clear hb1
      go_wp2_with fail
      go_roundw
      case rel =>
       refine ⟨k + 1, by go_num, by omega, ?_, HB1.out⟩
       intro j y hj hy
       by_cases h : j < k
       · exact HNO.out j y h hy
       · obtain rfl : j = k := by omega
         rw [HX.out] at hy
         injection hy with hy
         rw [← hy]; exact HPX.out
      case measure => simp [intOf]; omega
  · go_wp2_with fail
    go_ret
    exact ⟨ret_int (idxOf_none (p := p) (l := ws) (fun j y hy => HNO.out j y (by have := (List.getElem?_eq_some_iff.1 hy).1; rw [HL.out] at this; omega) hy)).symm, HB.out⟩
def besideS (a b : DoneV) : Bool := decide (a.m.s.snap < b.num) && decide (b.m.s.snap < a.num)
def clashS (a b : DoneV) : Bool := besideS a b && a.m.s.writes.any fun x => writesP b.m.s x
set_option maxRecDepth 100000 in
set_option maxHeartbeats 1600000 in
theorem besideS_any (a b : DoneV) (w : World) : Calls Tryz.prog 68 #[a.agg, b.agg] w (RetBox w (.bool (besideS a b))) := by
 obtain ⟨R, hR⟩ : ∃ R, R = besideS a b := ⟨_, rfl⟩
 rw [← hR]
 unfold besideS at hR
 have hb : Below w.heap.size w ((w.alloc (.cells a.cells.toArray 40)).alloc (.cells b.cells.toArray 40)) := below_alloc (below_alloc (Below.refl _ _) _) _
 unfold DoneV.agg
 by_cases h1 : a.m.s.snap < b.num
 · by_cases h2 : b.m.s.snap < a.num
   · have HR : Hid (R = true) := by show _ = _; rw [hR, decide_eq_true h1, decide_eq_true h2]; rfl
     clear hR
     go_enter Tryz.func68, Tryz.ntmps68
     go_wp2_with fail
     go_ret
     exact ⟨by rw [HR.out]; rfl, hb⟩
   · have HR : Hid (R = false) := by show _ = _; rw [hR, decide_eq_true h1, decide_eq_false h2]; rfl
     clear hR
     go_enter Tryz.func68, Tryz.ntmps68
     go_wp2_with fail
     go_ret
     exact ⟨by rw [HR.out]; rfl, hb⟩
 · have HR : Hid (R = false) := by show _ = _; rw [hR, decide_eq_false h1]; rfl
   clear hR
   go_enter Tryz.func68, Tryz.ntmps68
   go_wp2_with fail
   go_ret
   exact ⟨by rw [HR.out]; rfl, hb⟩
set_option maxRecDepth 100000 in
set_option maxHeartbeats 1600000 in
theorem clashFn_any (b : DoneV) (hr : b.m.s.Right) (key : Nat) (hkey : key < 18446744073709551616) (B : Nat) (w : World) (hm : b.m.ok w) (hB : w.heap[B]? = some (.cells b.cells.toArray 40 (0, 0))) :
 Calls Tryz.prog 69 #[.float .f64 key, .pointer (some ⟨B, 0, none⟩)] w (RetBox w (.bool (writesP b.m.s key))) := by
 have h := writes_any b.m hr key hkey w hm
 unfold SubM.args at h
 have H := Lib.hid h
 obtain ⟨c0, c1, c2, c3, c4, c5, c6⟩ := done_block hB
 clear h hr hm hB
 go_enter Tryz.func69, Tryz.ntmps69
 go_wp2_with fail
 refine H.out.mono ?_
 rintro e w1 ⟨rfl, hb1⟩
 have HB1 := Lib.hid hb1
 clear hb1 c0 c1 c2 c3 c4 c5 c6
 go_wp2_with fail
 go_ret
 exact ⟨rfl, HB1.out⟩
set_option maxRecDepth 100000 in
set_option maxHeartbeats 3200000 in
theorem clash_any (a b : DoneV) (ha : a.m.s.Right) (hb : b.m.s.Right) (w : World) (hma : a.m.ok w) (hmb : b.m.ok w) : Calls Tryz.prog 31 #[a.agg, b.agg] w (RetBox w (.bool (clashS a b))) := by
 have hlw := ha.lw
 obtain ⟨Y, hY⟩ : ∃ Y, Y = (w.alloc (.cells a.cells.toArray 40)).alloc (.cells b.cells.toArray 40) := ⟨_, rfl⟩
 have hbY : Below w.heap.size w Y := hY ▸ below_alloc (below_alloc (Below.refl _ _) _) _
 have hYA : Y.heap[w.heap.size]? = some (.cells a.cells.toArray 40 (0, 0)) := hY ▸ alloc_keep (heap_alloc_new w _) _
 have hYB : Y.heap[w.heap.size + 1]? = some (.cells b.cells.toArray 40 (0, 0)) := hY ▸ alloc_new1 _ _ _
 have eg : ∀ args w, (callFunc 69 args).run Tryz.prog w = .ok (.enter 69 args) w := enters_of Tryz.func69 (by kernel_rfl) rfl
 have hbs := besideS_any a b
 have hcn : ∀ W, Below Y.heap.size Y W → Calls Tryz.prog 47 #[.slice a.m.wa a.m.s.writes.length a.m.wc, .func (.func 69) #[] #[.pointer (some ⟨w.heap.size + 1, 0, none⟩)]] W (RetBox W (.bool (a.m.s.writes.any fun x => writesP b.m.s x))) := fun W hW =>
  containsF_any 69 #[.pointer (some ⟨w.heap.size + 1, 0, none⟩)] (fun x => writesP b.m.s x) a.m.s.writes a.m.wa a.m.s.writes.length a.m.wc W (hma.below (below_then hbY hW)).writes rfl (by omega) eg (fun x hx Z hZ => clashFn_any b hb x (hma.words.writes x hx) (w.heap.size + 1) Z ((hmb.below (below_then hbY hW)).below hZ) ((hZ.block _ (Nat.lt_of_lt_of_le (lt_of_block hYB) hW.size)).trans ((hW.block _ (lt_of_block hYB)).trans hYB)))
 obtain ⟨R, hR⟩ : ∃ R, R = clashS a b := ⟨_, rfl⟩
 rw [← hR]
 unfold clashS at hR
 obtain ⟨B, hB⟩ : ∃ B, B = besideS a b := ⟨_, rfl⟩
 obtain ⟨C, hC⟩ : ∃ C, C = a.m.s.writes.any (fun x => writesP b.m.s x) := ⟨_, rfl⟩
 rw [← hB] at hbs hR
 rw [← hC] at hcn hR
 unfold DoneV.agg at hbs ⊢
 have HBS := Lib.hid hbs
 have HCN := Lib.hid hcn
 have HR := Lib.hid hR
 have HBY := Lib.hid hbY
 have HYA := Lib.hid hYA
 obtain ⟨c0, c1, c2, c3, c4, c5, c6⟩ := done_block hYA
 obtain ⟨d0, d1, d2, d3, d4, d5, d6⟩ := done_block hYB
 clear hbs hcn hR hbY hYA hYB hB hC eg ha hb hma hmb
 go_enter Tryz.func31, Tryz.ntmps31
 go_upto_region 1 with fail
 rw [show (w.alloc (.cells #[.int .i64 a.num, .int .i64 a.m.s.session, .int .i64 a.m.s.seq, .int .i64 a.m.s.snap, .slice a.m.ra a.m.s.reads.length a.m.rc, .slice a.m.sa a.m.s.spans.length a.m.sc, .slice a.m.wa a.m.s.writes.length a.m.wc] 40)).alloc (.cells #[.int .i64 b.num, .int .i64 b.m.s.session, .int .i64 b.m.s.seq, .int .i64 b.m.s.snap, .slice b.m.ra b.m.s.reads.length b.m.rc, .slice b.m.sa b.m.s.spans.length b.m.sc, .slice b.m.wa b.m.s.writes.length b.m.wc] 40) = Y from hY.symm]
 clear hY
 go_wp2_with fail
 refine (HBS.out _).mono ?_
 rintro e w1 ⟨rfl, hb1⟩
 have e6 := (done_block ((hb1.block _ (lt_of_block HYA.out)).trans HYA.out)).2.2.2.2.2.2
 have HB1 := Lib.hid hb1
 clear hb1 c0 c1 c2 c3 c4 c5 c6 d0 d1 d2 d3 d4 d5 d6
 cases B with
 | true =>
   have HR2 : Hid (R = C) := by show _ = _; rw [HR.out]; rfl
   clear HR
   go_wp2_with fail
   refine (HCN.out _ HB1.out).mono ?_
   rintro e w2 ⟨rfl, hb2⟩
   have HB2 := Lib.hid (below_then (below_then HBY.out HB1.out) hb2)
   clear hb2 e6
   go_wp2_with fail
   go_ret
   exact ⟨by rw [HR2.out]; rfl, HB2.out⟩
 | false =>
   have HR2 : Hid (R = false) := by show _ = _; rw [HR.out]; rfl
   clear HR
   go_wp2_with fail
   go_ret
   exact ⟨by rw [HR2.out]; rfl, below_then HBY.out HB1.out⟩
set_option maxRecDepth 100000 in
set_option maxHeartbeats 1600000 in
theorem rightFn_any (d : DoneV) (hd : d.m.s.Right) (x : DoneV) (hx : x.m.s.Right) (B : Nat) (w : World) (hmd : d.m.ok w) (hmx : x.m.ok w) (hB : w.heap[B]? = some (.cells d.cells.toArray 40 (0, 0))) :
 Calls Tryz.prog 30 #[x.agg, .pointer (some ⟨B, 0, none⟩)] w (RetBox w (.bool (clashS x d))) := by
 have h := fun W (hb : Below w.heap.size w W) => clash_any x d hx hd W (hmx.below hb) (hmd.below hb)
 obtain ⟨R, hR⟩ : ∃ R, R = clashS x d := ⟨_, rfl⟩
 rw [← hR] at h ⊢
 unfold DoneV.agg at h ⊢
 have H := Lib.hid h
 have hBl := lt_of_block hB
 obtain ⟨c0, c1, c2, c3, c4, c5, c6⟩ := done_block hB
 clear h hd hx hmd hmx hB hR
 go_enter Tryz.func30, Tryz.ntmps30
 go_wp2_with fail
 refine (H.out _ (below_alloc (Below.refl _ _) _)).mono ?_
 rintro e w1 ⟨rfl, hb1⟩
 have HB1 := Lib.hid (below_then (below_alloc (Below.refl _ _) _) hb1)
 clear hb1 c0 c1 c2 c3 c4 c5 c6
 go_wp2_with fail
 go_ret
 exact ⟨rfl, HB1.out⟩
end Go.Proofs.YtpknmfmpiachkaaGreat
namespace Go.Proofs.YtpknmfmpiachkaaGreat
open Go.RowKit
theorem takeD (vs : List DoneV) : ∀ i, (vs.flatMap DoneV.cells).take (i * 7) = (vs.take i).flatMap DoneV.cells := by
 induction vs with
 | nil => intro i; simp
 | cons x r ih =>
   intro i
   cases i with
   | zero => simp
   | succ i =>
     rw [List.take_succ_cons, List.flatMap_cons, List.flatMap_cons, ← ih i, show (i + 1) * 7 = i * 7 + 1 + 1 + 1 + 1 + 1 + 1 + 1 by omega]
     rfl
theorem RowN.take {w : World} {a : Option Addr} {size n : Nat} {vs : List Value} (h : RowN w a size n vs) (k : Nat) (hk : k ≤ n) : RowN w a size k (vs.take (k * size)) := by
 refine ⟨by rw [List.length_take, h.1]; exact Nat.min_eq_left (Nat.mul_le_mul_right _ hk), fun h0 => ?_⟩
 obtain ⟨b, off, ha, hc⟩ := h.2 (by omega)
 refine ⟨b, off, ha, fun j u hu => hc j u ?_⟩
 rw [List.getElem?_take] at hu
 split at hu
 · exact hu
 · cases hu
structure HistAt (w : World) (a : Option Addr) (n cap : Nat) (h : List DoneV) : Prop where
 len : h.length = n
 row : RowN w a 7 n (h.flatMap DoneV.cells)
 ok : ∀ d ∈ h, d.m.ok w
 room : n ≤ cap
 big : cap ≤ 9223372036854775807
theorem HistAt.below {w w' : World} {a : Option Addr} {n cap : Nat} {h : List DoneV} (hh : HistAt w a n cap h) (hb : Below w.heap.size w w') : HistAt w' a n cap h :=
 ⟨hh.len, hh.row.below hb, fun d hd => (hh.ok d hd).below hb, hh.room, hh.big⟩
def badAt (h : List DoneV) (i : Nat) (d : DoneV) : Bool := decide (d.num ≠ (i : Int) + 1) || decide (checkP d.m.s ≠ 0) || decide (d.num ≤ d.m.s.snap) || (h.take i).any (fun x => clashS x d)
def rightL (h : List DoneV) : Nat → List DoneV → Bool
 | _, [] => true
 | i, d :: r => !badAt h i d && rightL h (i + 1) r
def rightP (h : List DoneV) : Bool := decide (h.length ≤ 64) && rightL h 0 h
set_option maxRecDepth 100000 in
set_option maxHeartbeats 12800000 in
theorem right_any (a : Option Addr) (n cap : Nat) (h : List DoneV) (w : World) (hh : HistAt w a n cap h) :
 Calls Tryz.prog 11 #[.slice a n cap] w (RetBox w (.bool (rightP h))) := by
 obtain ⟨R, hR⟩ : ∃ R, R = rightP h := ⟨_, rfl⟩
 rw [← hR]
 unfold rightP at hR
 have hlen := hh.len
 have hcap := hh.room
 have hbig := hh.big
 have HH := Lib.hid hh
 have eg : ∀ args w, (callFunc 30 args).run Tryz.prog w = .ok (.enter 30 args) w := enters_of Tryz.func30 (by kernel_rfl) rfl
 have HEG := Lib.hid eg
 clear hh eg
 by_cases hn : n ≤ 64
 case neg =>
  have HR : Hid (R = false) := by show _ = _; rw [hR, hlen, decide_eq_false hn]; rfl
  have hn' : 64 < n := by omega
  clear hR
  go_enter Tryz.func11, Tryz.ntmps11
  go_wp2_with fail
  go_ret
  exact ⟨by rw [HR.out]; rfl, Below.refl _ _⟩
 have HR : Hid (R = rightL h 0 h) := by show _ = _; rw [hR, hlen, decide_eq_true hn]; rfl
 have hn' : ¬ 64 < n := by omega
 have HLEN := Lib.hid hlen
 clear hR hlen
 go_enter Tryz.func11, Tryz.ntmps11
 go_wp2_with fail
 go_loopg [10] n (fun g s10 wx => ∃ k : Nat, s10 = .int .i64 k ∧ k ≤ n ∧ g = n - k ∧ Hid (R = rightL h k (h.drop k)) ∧ Hid (∀ (j : Nat) y, j < k → h[j]? = some y → y.m.s.Right) ∧ Hid (Below w.heap.size w wx))
 case atStart => exact ⟨0, rfl, Nat.zero_le _, rfl, HR.out, fun j y hj => by omega, Below.refl _ _⟩
 case round =>
  obtain ⟨k, rfl, hk, rfl, HQ, HRT, HB⟩ := hrel
  have hk0 : (0 : Int) ≤ (k : Int) := by omega
  have hnat : ((k : Int)).toNat = k := by omega
  by_cases hlt : k < n
  · obtain ⟨d, hd⟩ : ∃ d, h[k]? = some d := ⟨_, List.getElem?_eq_getElem (by rw [HLEN.out]; exact hlt)⟩
    have hdm := List.mem_of_getElem? hd
    have hHw := HH.out.below HB.out
    obtain ⟨b, off, rfl, e0, e1, e2, e3, e4, e5, e6⟩ := done_at hHw.row HLEN.out k hlt d hd
    have hkn : (k : Int) < (n : Int) := by omega
    have hq := HQ.out
    rw [drop_at hd] at hq
    replace hq : R = (!badAt h k d && rightL h (k + 1) (h.drop (k + 1))) := hq
    unfold badAt at hq
    obtain ⟨X, hX⟩ : ∃ X, X = wr.alloc (.cells d.cells.toArray 40) := ⟨_, rfl⟩
    have hbX : Below w.heap.size w X := hX ▸ below_alloc HB.out _
    have hbX2 : Below wr.heap.size wr X := hX ▸ below_alloc (Below.refl _ _) _
    have hXB : X.heap[wr.heap.size]? = some (.cells d.cells.toArray 40 (0, 0)) := hX ▸ heap_alloc_new wr _
    have hch := check_any d.m X ((hHw.ok d hdm).below hbX2)
    have hwords := (HH.out.ok d hdm).words
    have hrowk : RowN X (some ⟨b, off, none⟩) 7 k ((h.take k).flatMap DoneV.cells) := by rw [← takeD]; exact (hHw.row.below hbX2).take k hk
    obtain ⟨E, hE⟩ : ∃ E, E = checkP d.m.s := ⟨_, rfl⟩
    rw [← hE] at hch hq
    have hcn : E = 0 → ∀ W, Below X.heap.size X W → Calls Tryz.prog 29 #[.slice (some ⟨b, off, none⟩) k cap, .func (.func 30) #[] #[.pointer (some ⟨wr.heap.size, 0, none⟩)]] W (RetBox W (.bool ((h.take k).any fun x => clashS x d))) := fun h0 W hW =>
     containsD_any 30 #[.pointer (some ⟨wr.heap.size, 0, none⟩)] (fun x => clashS x d) (h.take k) (some ⟨b, off, none⟩) k cap W (hrowk.below hW) (by rw [List.length_take, HLEN.out]; omega) (by omega) HEG.out (fun x hx Z hZ => by
      obtain ⟨j, hj⟩ := List.mem_iff_getElem?.1 hx
      rw [List.getElem?_take] at hj
      split at hj
      · exact rightFn_any d (check_right hwords (hE ▸ h0)) x (HRT.out j x (by assumption) hj) wr.heap.size Z ((((hHw.ok d hdm).below hbX2).below hW).below hZ) ((((hHw.ok x (List.mem_of_getElem? hj)).below hbX2).below hW).below hZ) ((hZ.block _ (Nat.lt_of_lt_of_le (lt_of_block hXB) hW.size)).trans ((hW.block _ (lt_of_block hXB)).trans hXB))
      · cases hj)
    obtain ⟨CL, hCL⟩ : ∃ CL, CL = (h.take k).any (fun x => clashS x d) := ⟨_, rfl⟩
    rw [← hCL] at hcn hq
    obtain ⟨c0, c1, c2, c3, c4, c5, c6⟩ := done_block hXB
    have hE2 : E = 0 → d.m.s.Right := fun h0 => check_right hwords (hE ▸ h0)
    have HCH := Lib.hid hch
    have HCN := Lib.hid hcn
    have HBX := Lib.hid hbX
    have HXB := Lib.hid hXB
    have HX := Lib.hid hX
    have HQ2 := Lib.hid hq
    have HE2 := Lib.hid hE2
    have HD := Lib.hid hd
    have hXs : wr.heap.size < X.heap.size := lt_of_block hXB
    clear hd hdm hHw hq hX hbX hbX2 hXB hch hwords hrowk hcn hE hCL hE2
    go_upto_region 6 with fail
    rw [show wr.alloc (.cells #[.int .i64 d.num, .int .i64 d.m.s.session, .int .i64 d.m.s.seq, .int .i64 d.m.s.snap, .slice d.m.ra d.m.s.reads.length d.m.rc, .slice d.m.sa d.m.s.spans.length d.m.sc, .slice d.m.wa d.m.s.writes.length d.m.wc] 40) = X from HX.out.symm]
    clear e0 e1 e2 e3 e4 e5 e6 HX
    by_cases h1 : d.num = (k : Int) + 1
    case neg =>
     have HF : Hid (R = false) := by show _ = _; rw [HQ2.out, decide_eq_true h1]; rfl
     have hb1 : (d.num != (k : Int) + 1) = true := by simpa using h1
     go_wp2_with fail
     go_ret
     exact ⟨by rw [HF.out]; rfl, HBX.out⟩
    have hb1 : (d.num != (k : Int) + 1) = false := by simpa using h1
    have HQ3 : Hid (R = (!(decide (E ≠ 0) || decide (d.num ≤ d.m.s.snap) || CL) && rightL h (k + 1) (h.drop (k + 1)))) := by show _ = _; rw [HQ2.out, decide_eq_false (show ¬ (d.num ≠ (k : Int) + 1) from fun h => h h1)]; rfl
    clear HQ2
    unfold SubM.args at *
    go_wp2_with fail
    refine HCH.out.mono ?_
    rintro e w1 ⟨rfl, hb2⟩
    have HB1 := Lib.hid (below_then HBX.out hb2)
    have HXW := Lib.hid hb2
    obtain ⟨d0, d1, d2, d3, d4, d5, d6⟩ := done_block ((hb2.block _ (lt_of_block HXB.out)).trans HXB.out)
    clear hb2 c0 c1 c2 c3 c4 c5 c6 HCH
    by_cases h2 : E = 0
    case neg =>
     have HF : Hid (R = false) := by show _ = _; rw [HQ3.out, decide_eq_true h2]; rfl
     have hb3 : (E != 0) = true := by simpa using h2
     go_wp2_with fail
     go_ret
     exact ⟨by rw [HF.out]; rfl, HB1.out⟩
    have HQ4 : Hid (R = (!(decide (d.num ≤ d.m.s.snap) || CL) && rightL h (k + 1) (h.drop (k + 1)))) := by show _ = _; rw [HQ3.out, decide_eq_false (show ¬ (E ≠ 0) from fun h => h h2)]; rfl
    clear HQ3
    have HCN2 := Lib.hid (HCN.out h2)
    have HDR := Lib.hid (HE2.out h2)
    clear HCN HE2
    subst h2
    by_cases h3 : d.num ≤ d.m.s.snap
    case pos =>
     have HF : Hid (R = false) := by show _ = _; rw [HQ4.out, decide_eq_true h3]; rfl
     go_wp2_with fail
     go_ret
     exact ⟨by rw [HF.out]; rfl, HB1.out⟩
    have HQ5 : Hid (R = (!CL && rightL h (k + 1) (h.drop (k + 1)))) := by show _ = _; rw [HQ4.out, decide_eq_false h3]; rfl
    clear HQ4
    have hkc : k ≤ cap := by omega
    have hkcI : (k : Int) ≤ (cap : Int) := by omega
    go_wp2_with fail
    refine (HCN2.out _ HXW.out).mono ?_
    rintro e w2 ⟨rfl, hb2⟩
    have HB2 := Lib.hid (below_then HB1.out hb2)
    clear hb2 d0 d1 d2 d3 d4 d5 d6
    cases CL with
    | true =>
      have HF : Hid (R = false) := by show _ = _; rw [HQ5.out]; rfl
      clear HQ5
      go_wp2_with fail
      go_ret
      exact ⟨by rw [HF.out]; rfl, HB2.out⟩
    | false =>
      have HF : Hid (R = rightL h (k + 1) (h.drop (k + 1))) := by show _ = _; rw [HQ5.out]; rfl
      clear HQ5
      go_wp2_with fail
      go_roundg (n - (k + 1))
      case measure => omega
      case rel =>
       refine ⟨k + 1, by go_num, by omega, rfl, HF.out, fun j y hj hy => ?_, HB2.out⟩
       by_cases hjk : j < k
       · exact HRT.out j y hjk hy
       · obtain rfl : j = k := by omega
         rw [HD.out] at hy
         cases hy
         exact HDR.out
  · obtain rfl : k = n := by omega
    have hq := HQ.out
    rw [List.drop_of_length_le (by rw [HLEN.out]; exact Nat.le_refl _)] at hq
    have HF : Hid (R = true) := hq
    clear hq
    go_wp2_with fail
    go_ret
    exact ⟨by rw [HF.out]; rfl, HB.out⟩
end Go.Proofs.YtpknmfmpiachkaaGreat
namespace Go.Proofs.YtpknmfmpiachkaaGreat
open Go.RowKit
def leadK (a b : DoneV) (x : Nat) : Bool := (decide (a.num < b.num) && writesP b.m.s x) || (decide (a.num ≤ b.m.s.snap) && readsP b.m.s x)
def leadsP (a b : DoneV) : Bool := if a.num = b.num then false else (a.m.s.writes.any (leadK a b) || (decide (a.m.s.snap < b.num) && meetsP a.m.s b.m.s))
set_option maxRecDepth 100000 in
set_option maxHeartbeats 12800000 in
theorem leads_any (a b : DoneV) (ha : a.m.s.Right) (hb : b.m.s.Right) (w : World) (hma : a.m.ok w) (hmb : b.m.ok w) : Calls Tryz.prog 110 #[a.agg, b.agg] w (RetBox w (.bool (leadsP a b))) := by
 have hlw := ha.lw
 obtain ⟨R, hR⟩ : ∃ R, R = leadsP a b := ⟨_, rfl⟩
 rw [← hR]
 unfold leadsP at hR
 have hwr := fun key hk W (hW : Below w.heap.size w W) => writes_any b.m hb key hk W (hmb.below hW)
 have hrd := fun key hk W (hW : Below w.heap.size w W) => reads_any b.m hb key hk W (hmb.below hW)
 have hme := fun W (hW : Below w.heap.size w W) => meets_any a.m b.m ha hb W (hma.below hW) (hmb.below hW)
 obtain ⟨MT, hMT⟩ : ∃ MT, MT = meetsP a.m.s b.m.s := ⟨_, rfl⟩
 rw [← hMT] at hR hme
 have hrow := hma.writes
 have hwords := hma.words.writes
 obtain ⟨Y, hY⟩ : ∃ Y, Y = (w.alloc (.cells a.cells.toArray 40)).alloc (.cells b.cells.toArray 40) := ⟨_, rfl⟩
 have hbY : Below w.heap.size w Y := hY ▸ below_alloc (below_alloc (Below.refl _ _) _) _
 have hYA : Y.heap[w.heap.size]? = some (.cells a.cells.toArray 40 (0, 0)) := hY ▸ alloc_keep (heap_alloc_new w _) _
 have hYB : Y.heap[w.heap.size + 1]? = some (.cells b.cells.toArray 40 (0, 0)) := hY ▸ alloc_new1 _ _ _
 obtain ⟨LK, hLK⟩ : ∃ LK, LK = leadK a b := ⟨_, rfl⟩
 rw [← hLK] at hR
 have hLKe : ∀ x, LK x = ((decide (a.num < b.num) && writesP b.m.s x) || (decide (a.num ≤ b.m.s.snap) && readsP b.m.s x)) := fun x => by rw [hLK]; rfl
 obtain ⟨anum, ms, ra, rc, sa, sc, wa, wk⟩ := a
 simp only at hR hlw hrow hwords hLKe
 unfold SubM.args at hwr hrd hme
 have HWR := Lib.hid hwr
 have HRD := Lib.hid hrd
 have HME := Lib.hid hme
 have HR := Lib.hid hR
 have HROW := Lib.hid hrow
 have HWD := Lib.hid hwords
 have HLK := Lib.hid hLKe
 have HBY := Lib.hid hbY
 have HYA := Lib.hid hYA
 have HYB := Lib.hid hYB
 have hYs : w.heap.size + 2 ≤ Y.heap.size := lt_of_block hYB
 obtain ⟨c0, c1, c2, c3, c4, c5, c6⟩ := done_block hYA
 obtain ⟨d0, d1, d2, d3, d4, d5, d6⟩ := done_block hYB
 simp only at c0 c1 c2 c3 c4 c5 c6
 clear hwr hrd hme hR hrow hwords hLKe hbY hYA hYB ha hb hma hmb hMT hLK
 rw [show (w.alloc (.cells (DoneV.mk anum ⟨ms, ra, rc, sa, sc, wa, wk⟩).cells.toArray 40)).alloc (.cells b.cells.toArray 40) = (w.alloc (.cells #[.int .i64 anum, .int .i64 ms.session, .int .i64 ms.seq, .int .i64 ms.snap, .slice ra ms.reads.length rc, .slice sa ms.spans.length sc, .slice wa ms.writes.length wk] 40)).alloc (.cells #[.int .i64 b.num, .int .i64 b.m.s.session, .int .i64 b.m.s.seq, .int .i64 b.m.s.snap, .slice b.m.ra b.m.s.reads.length b.m.rc, .slice b.m.sa b.m.s.spans.length b.m.sc, .slice b.m.wa b.m.s.writes.length b.m.wc] 40) from rfl] at hY
 rw [show #[DoneV.agg (DoneV.mk anum ⟨ms, ra, rc, sa, sc, wa, wk⟩), b.agg] = #[Value.agg #[.int .i64 anum, .int .i64 ms.session, .int .i64 ms.seq, .int .i64 ms.snap, .slice ra ms.reads.length rc, .slice sa ms.spans.length sc, .slice wa ms.writes.length wk], .agg #[.int .i64 b.num, .int .i64 b.m.s.session, .int .i64 b.m.s.seq, .int .i64 b.m.s.snap, .slice b.m.ra b.m.s.reads.length b.m.rc, .slice b.m.sa b.m.s.spans.length b.m.sc, .slice b.m.wa b.m.s.writes.length b.m.wc]] from rfl]
 by_cases h0 : anum = b.num
 case pos =>
  subst h0
  have HF : Hid (R = false) := by show _ = _; rw [HR.out, if_pos rfl]
  go_enter Tryz.func110, Tryz.ntmps110
  go_upto_region 1 with fail
  rw [← hY]
  clear hY HR
  go_wp2_with fail
  go_ret
  exact ⟨by rw [HF.out]; rfl, HBY.out⟩
 have hb0 : (anum == b.num) = false := by simpa using h0
 obtain ⟨T, hT⟩ : ∃ T, T = (decide (ms.snap < b.num) && MT) := ⟨_, rfl⟩
 have HF : Hid (R = (ms.writes.any LK || T)) := by show _ = _; rw [HR.out, if_neg h0, hT]
 have HT := Lib.hid hT
 clear HR hT
 go_enter Tryz.func110, Tryz.ntmps110
 go_upto_region 1 with fail
 rw [← hY]
 clear hY
 go_wp2_with fail
 clear c0 c1 c2 c3 c4 c5 c6 d0 d1 d2 d3 d4 d5 d6
 go_loopg [16] ms.writes.length (fun g s16 wx => ∃ k : Nat, s16 = .int .i64 k ∧ k ≤ ms.writes.length ∧ g = ms.writes.length - k ∧ Hid (R = ((ms.writes.drop k).any LK || T)) ∧ Hid (Below w.heap.size w wx) ∧ Hid (Below Y.heap.size Y wx))
 case atStart => exact ⟨0, rfl, Nat.zero_le _, rfl, HF.out, HBY.out, Below.refl _ _⟩
 case round =>
  obtain ⟨k, rfl, hk, rfl, HQ, HB, HBB⟩ := hrel
  have hk0 : (0 : Int) ≤ (k : Int) := by omega
  have hnat : ((k : Int)).toNat = k := by omega
  have HA1 : Hid (wr.heap[w.heap.size]? = _) := (HBB.out.block _ (lt_of_block HYA.out)).trans HYA.out
  have HB1 : Hid (wr.heap[w.heap.size + 1]? = _) := (HBB.out.block _ (lt_of_block HYB.out)).trans HYB.out
  obtain ⟨c0, c1, c2, c3, c4, c5, c6⟩ := done_block HA1.out
  obtain ⟨d0, d1, d2, d3, d4, d5, d6⟩ := done_block HB1.out
  simp only at c0 c1 c2 c3 c4 c5 c6
  by_cases hlt : k < ms.writes.length
  · obtain ⟨x, hx⟩ : ∃ x, ms.writes[k]? = some x := ⟨_, List.getElem?_eq_getElem hlt⟩
    have hxw := HWD.out x (List.mem_of_getElem? hx)
    obtain ⟨b0, off, rfl, e0⟩ := float_at (HROW.out.below HB.out) k hlt x hx
    have hkn : (k : Int) < (ms.writes.length : Int) := by omega
    have hq := HQ.out
    rw [drop_at hx, List.any_cons, HLK.out x] at hq
    have hw1 := HWR.out x hxw
    have hr1 := HRD.out x hxw
    obtain ⟨WX, hWX⟩ : ∃ WX, WX = writesP b.m.s x := ⟨_, rfl⟩
    obtain ⟨RX, hRX⟩ : ∃ RX, RX = readsP b.m.s x := ⟨_, rfl⟩
    rw [← hWX] at hq hw1
    rw [← hRX] at hq hr1
    have HQ2 := Lib.hid hq
    have HW1 := Lib.hid hw1
    have HR1 := Lib.hid hr1
    clear hx hxw hq hw1 hr1 hWX hRX
    have hdone : ∀ W, Below wr.heap.size wr W → Below w.heap.size w W ∧ Below Y.heap.size Y W := fun W hW => ⟨below_then HB.out hW, below_then HBB.out hW⟩
    have HDN := Lib.hid hdone
    clear hdone
    by_cases h1 : anum < b.num
    · have HQ3a : Hid (R = (((WX || (decide (anum ≤ b.m.s.snap) && RX)) || (ms.writes.drop (k + 1)).any LK) || T)) := by show _ = _; rw [HQ2.out, decide_eq_true h1]; simp
      clear HQ2
      go_wp2_with fail
      refine (HW1.out _ HB.out).mono ?_
      rintro e w1 ⟨rfl, hb1⟩
      have HB2 := Lib.hid hb1
      clear c0 c1 c2 c3 c4 c5 c6 d0 d1 d2 d3 d4 d5 d6
      obtain ⟨c0, c1, c2, c3, c4, c5, c6⟩ := done_block ((hb1.block _ (lt_of_block HA1.out)).trans HA1.out)
      obtain ⟨d0, d1, d2, d3, d4, d5, d6⟩ := done_block ((hb1.block _ (lt_of_block HB1.out)).trans HB1.out)
      simp only at c0 c1 c2 c3 c4 c5 c6
      clear hb1 e0
      cases WX with
      | true =>
        have HF2 : Hid (R = true) := by show _ = _; rw [HQ3a.out]; simp
        clear HQ3a
        go_wp2_with fail
        go_ret
        exact ⟨by rw [HF2.out]; rfl, (HDN.out _ HB2.out).1⟩
      | false =>
        have HQ3 : Hid (R = (((decide (anum ≤ b.m.s.snap) && RX) || (ms.writes.drop (k + 1)).any LK) || T)) := by show _ = _; rw [HQ3a.out]; simp
        clear HQ3a
        by_cases h2 : anum ≤ b.m.s.snap
        · have HQ4 : Hid (R = ((RX || (ms.writes.drop (k + 1)).any LK) || T)) := by show _ = _; rw [HQ3.out, decide_eq_true h2]; simp
          clear HQ3
          go_wp2_with fail
          refine (HR1.out _ (HDN.out _ HB2.out).1).mono ?_
          rintro e w2 ⟨rfl, hb2⟩
          have HB3 := Lib.hid (HDN.out _ (below_then HB2.out hb2))
          clear hb2 c0 c1 c2 c3 c4 c5 c6 d0 d1 d2 d3 d4 d5 d6
          cases RX with
          | true =>
            have HF2 : Hid (R = true) := by show _ = _; rw [HQ4.out]; simp
            clear HQ4
            go_wp2_with fail
            go_ret
            exact ⟨by rw [HF2.out]; rfl, HB3.out.1⟩
          | false =>
            have HF2 : Hid (R = ((ms.writes.drop (k + 1)).any LK || T)) := by show _ = _; rw [HQ4.out]; simp
            clear HQ4
            go_wp2_with fail
            go_roundg (ms.writes.length - (k + 1))
            case measure => omega
            case rel => exact ⟨k + 1, by go_num, by omega, rfl, HF2.out, HB3.out.1, HB3.out.2⟩
        · have HF2 : Hid (R = ((ms.writes.drop (k + 1)).any LK || T)) := by show _ = _; rw [HQ3.out, decide_eq_false h2]; simp
          clear HQ3
          have HB3 := Lib.hid (HDN.out _ HB2.out)
          go_wp2_with fail
          go_roundg (ms.writes.length - (k + 1))
          case measure => omega
          case rel => exact ⟨k + 1, by go_num, by omega, rfl, HF2.out, HB3.out.1, HB3.out.2⟩
    · have HQ3 : Hid (R = (((decide (anum ≤ b.m.s.snap) && RX) || (ms.writes.drop (k + 1)).any LK) || T)) := by show _ = _; rw [HQ2.out, decide_eq_false h1]; simp
      clear HQ2
      by_cases h2 : anum ≤ b.m.s.snap
      · have HQ4 : Hid (R = ((RX || (ms.writes.drop (k + 1)).any LK) || T)) := by show _ = _; rw [HQ3.out, decide_eq_true h2]; simp
        clear HQ3
        go_wp2_with fail
        refine (HR1.out _ (HDN.out _ (Below.refl _ _)).1).mono ?_
        rintro e w2 ⟨rfl, hb2⟩
        have HB3 := Lib.hid (HDN.out _ (below_then (Below.refl _ _) hb2))
        clear hb2 c0 c1 c2 c3 c4 c5 c6 d0 d1 d2 d3 d4 d5 d6
        cases RX with
        | true =>
          have HF2 : Hid (R = true) := by show _ = _; rw [HQ4.out]; simp
          clear HQ4
          go_wp2_with fail
          go_ret
          exact ⟨by rw [HF2.out]; rfl, HB3.out.1⟩
        | false =>
          have HF2 : Hid (R = ((ms.writes.drop (k + 1)).any LK || T)) := by show _ = _; rw [HQ4.out]; simp
          clear HQ4
          go_wp2_with fail
          go_roundg (ms.writes.length - (k + 1))
          case measure => omega
          case rel => exact ⟨k + 1, by go_num, by omega, rfl, HF2.out, HB3.out.1, HB3.out.2⟩
      · have HF2 : Hid (R = ((ms.writes.drop (k + 1)).any LK || T)) := by show _ = _; rw [HQ3.out, decide_eq_false h2]; simp
        clear HQ3
        have HB3 := Lib.hid (HDN.out _ (Below.refl _ _))
        go_wp2_with fail
        go_roundg (ms.writes.length - (k + 1))
        case measure => omega
        case rel => exact ⟨k + 1, by go_num, by omega, rfl, HF2.out, HB3.out.1, HB3.out.2⟩
  · obtain rfl : k = ms.writes.length := by omega
    have hq := HQ.out
    rw [List.drop_of_length_le (Nat.le_refl _)] at hq
    have HQ2 : Hid (R = T) := by show _ = _; rw [hq]; rfl
    clear hq
    by_cases h1 : ms.snap < b.num
    · have HT2 : Hid (T = MT) := by show _ = _; rw [HT.out, decide_eq_true h1]; rfl
      go_wp2_with fail
      refine (HME.out _ HB.out).mono ?_
      rintro e w1 ⟨rfl, hb1⟩
      have HB2 := Lib.hid (below_then HB.out hb1)
      clear hb1 c0 c1 c2 c3 c4 c5 c6 d0 d1 d2 d3 d4 d5 d6
      go_wp2_with fail
      go_ret
      exact ⟨by rw [HQ2.out, HT2.out]; rfl, HB2.out⟩
    · have HT2 : Hid (T = false) := by show _ = _; rw [HT.out, decide_eq_false h1]; rfl
      go_wp2_with fail
      go_ret
      exact ⟨by rw [HQ2.out, HT2.out]; rfl, HB.out⟩
end Go.Proofs.YtpknmfmpiachkaaGreat
