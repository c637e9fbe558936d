/- cert's beside: what all that is known says of a submission. -/
import Derived.Test.YtpknmfmpiachkaaGreatCert3
namespace Go.Proofs.YtpknmfmpiachkaaGreat
open Go.RowKit
def besideStep (s : SubP) (l : LookP) (r : RecV) : LookP :=
 if r.num ≤ s.snap then l else
  ⟨l.written || s.writes.any (fun x => writesP r.m.s x), l.out || (meetsP s r.m.s && r.out), if meetsP s r.m.s && decide (l.least = 0) then r.num else l.least, if meetsP r.m.s s then r.num else l.most⟩
def besideP (c : CertV) (s : SubP) : LookP := c.recs.foldl (besideStep s) (summaryP c s)
theorem dropR (vs : List RecV) : ∀ i, (vs.flatMap RecV.cells).drop (i * 8) = (vs.drop i).flatMap RecV.cells := by
 induction vs with
 | nil => intro i; simp
 | cons x r ih =>
   intro i
   cases i with
   | zero => simp
   | succ i =>
     rw [List.drop_succ_cons, ← ih i, List.flatMap_cons, show (i + 1) * 8 = 8 + i * 8 by omega, ← List.drop_drop]
     congr 1
theorem rec_at {w : World} {a : Option Addr} {n : Nat} {vs : List RecV} (hr : RowN w a 8 n (vs.flatMap RecV.cells)) (hs : vs.length = n) (k : Nat) (hk : k < n) (v : RecV) (he : vs[k]? = some v) :
 ∃ b off, a = some ⟨b, off, none⟩ ∧ ∀ j u, v.cells[j]? = some u → w.cell? ⟨b, off + k * 8 + j, none⟩ = some u := by
 obtain ⟨b, off, ha, hc⟩ := hr.2 (by omega)
 refine ⟨b, off, ha, fun i u hu => ?_⟩
 have hi : i < 8 := (List.getElem?_eq_some_iff.1 hu).1
 have : (vs.flatMap RecV.cells)[k * 8 + i]? = some u := by
  have h1 : ((vs.flatMap RecV.cells).drop (k * 8))[i]? = some u := by
   rw [dropR, List.drop_eq_getElem_cons (show k < vs.length by omega), List.flatMap_cons, List.getElem?_append_left (by simp [RecV.cells]; omega)]
   have : vs[k]'(by omega) = v := (List.getElem?_eq_some_iff.1 he).2
   rw [this]
   exact hu
  rwa [List.getElem?_drop] at h1
 rw [Nat.add_assoc]
 exact hc _ _ this
theorem rec_cells {w : World} {b o : Nat} {r : RecV} (h : ∀ j u, r.cells[j]? = some u → w.cell? ⟨b, o + j, none⟩ = some u) :
 w.cell? ⟨b, o, none⟩ = some (.int .i64 r.num) ∧ w.cell? ⟨b, o + 1, none⟩ = some (.int .i64 r.m.s.session) ∧ w.cell? ⟨b, o + 2, none⟩ = some (.int .i64 r.m.s.seq) ∧ w.cell? ⟨b, o + 3, none⟩ = some (.int .i64 r.m.s.snap) ∧ w.cell? ⟨b, o + 4, none⟩ = some (.slice r.m.ra r.m.s.reads.length r.m.rc) ∧ w.cell? ⟨b, o + 5, none⟩ = some (.slice r.m.sa r.m.s.spans.length r.m.sc) ∧ w.cell? ⟨b, o + 6, none⟩ = some (.slice r.m.wa r.m.s.writes.length r.m.wc) ∧ w.cell? ⟨b, o + 7, none⟩ = some (.bool r.out) :=
 ⟨h 0 _ rfl, h 1 _ rfl, h 2 _ rfl, h 3 _ rfl, h 4 _ rfl, h 5 _ rfl, h 6 _ rfl, h 7 _ rfl⟩
theorem rec_block {w : World} {B : Nat} {r : RecV} (h : w.heap[B]? = some (.cells #[.int .i64 r.num, .int .i64 r.m.s.session, .int .i64 r.m.s.seq, .int .i64 r.m.s.snap, .slice r.m.ra r.m.s.reads.length r.m.rc, .slice r.m.sa r.m.s.spans.length r.m.sc, .slice r.m.wa r.m.s.writes.length r.m.wc, .bool r.out] 77 (0, 0))) :
 w.cell? ⟨B, 0, none⟩ = some (.int .i64 r.num) ∧ w.cell? ⟨B, 1, none⟩ = some (.int .i64 r.m.s.session) ∧ w.cell? ⟨B, 2, none⟩ = some (.int .i64 r.m.s.seq) ∧ w.cell? ⟨B, 3, none⟩ = some (.int .i64 r.m.s.snap) ∧ w.cell? ⟨B, 4, none⟩ = some (.slice r.m.ra r.m.s.reads.length r.m.rc) ∧ w.cell? ⟨B, 5, none⟩ = some (.slice r.m.sa r.m.s.spans.length r.m.sc) ∧ w.cell? ⟨B, 6, none⟩ = some (.slice r.m.wa r.m.s.writes.length r.m.wc) ∧ w.cell? ⟨B, 7, none⟩ = some (.bool r.out) := by
 refine ⟨?_, ?_, ?_, ?_, ?_, ?_, ?_, ?_⟩ <;> simp [World.cell?, h]
set_option maxRecDepth 100000 in
set_option maxHeartbeats 1600000 in
theorem besideFn_any (r : RecV) (hr : r.m.s.Right) (key : Nat) (hkey : key < 18446744073709551616) (B : Nat) (w : World) (hm : r.m.ok w)
 (hB : w.heap[B]? = some (.cells #[.int .i64 r.num, .int .i64 r.m.s.session, .int .i64 r.m.s.seq, .int .i64 r.m.s.snap, .slice r.m.ra r.m.s.reads.length r.m.rc, .slice r.m.sa r.m.s.spans.length r.m.sc, .slice r.m.wa r.m.s.writes.length r.m.wc, .bool r.out] 77 (0, 0))) :
 Calls Tryz.prog 56 #[.float .f64 key, .pointer (some ⟨B, 0, none⟩)] w (RetBox w (.bool (writesP r.m.s key))) := by
 have h := writes_any r.m hr key hkey w hm
 unfold SubM.args at h
 have H := Lib.hid h
 obtain ⟨c0, c1, c2, c3, c4, c5, c6, c7⟩ := rec_block hB
 clear h hr hm hB
 go_enter Tryz.func56, Tryz.ntmps56
 go_wp2_with fail
 refine H.out.mono ?_
 rintro e w1 ⟨rfl, hb1⟩
 have HB1 := Lib.hid hb1
 clear hb1 c0 c1 c2 c3 c4 c5 c6 c7
 go_wp2_with fail
 go_ret
 exact ⟨rfl, HB1.out⟩
set_option maxRecDepth 100000 in
set_option maxHeartbeats 25600000 in
theorem beside_any (κ : Nat → Nat) (k A : Nat) (c : CertV) (hc : c.Ok) (m : SubM) (hr : m.s.Right) (w : World) (hC : CertAt w κ k A c) (hm : m.ok w) :
 Calls Tryz.prog 24 #[.pointer (some ⟨A, 0, none⟩), m.args] w (RetBox w (besideP c m.s).agg) := by
 have hsu := fun W (hb : Below w.heap.size w W) => summary_any κ k A c hc m hr W (hC.chg (Chg.of_below (J := fun _ => False) hb) (fun _ h => h.elim)) (hm.below hb)
 obtain ⟨N1, N2, N3, N4, ra, rn, rcap, hA, _, _, _, _, _, hrl, ⟨base, _, hrow⟩, _, hparts⟩ := hC
 have hrow := RowN.of_own hrow
 have hlw := hr.lw
 have hkl := hc.len
 have hk32 := hc.keep.2
 have hright := hc.right
 have hm1 : ∀ r ∈ c.recs, ∀ W, Below w.heap.size w W → Calls Tryz.prog 57 #[m.args, r.m.args] W (RetBox W (.bool (meetsP m.s r.m.s))) := fun r hrm W hb => meets_any m r.m hr (hright r hrm) W (hm.below hb) ((hparts r hrm).ok.below hb)
 have hm2 : ∀ r ∈ c.recs, ∀ W, Below w.heap.size w W → Calls Tryz.prog 57 #[r.m.args, m.args] W (RetBox W (.bool (meetsP r.m.s m.s))) := fun r hrm W hb => meets_any r.m m (hright r hrm) hr W ((hparts r hrm).ok.below hb) (hm.below hb)
 have eg : ∀ args w, (callFunc 56 args).run Tryz.prog w = .ok (.enter 56 args) w := enters_of Tryz.func56 (by kernel_rfl) rfl
 have hcn : ∀ r ∈ c.recs, ∀ X W, Below w.heap.size w W → W.heap[X]? = some (.cells #[.int .i64 r.num, .int .i64 r.m.s.session, .int .i64 r.m.s.seq, .int .i64 r.m.s.snap, .slice r.m.ra r.m.s.reads.length r.m.rc, .slice r.m.sa r.m.s.spans.length r.m.sc, .slice r.m.wa r.m.s.writes.length r.m.wc, .bool r.out] 77 (0, 0)) → Calls Tryz.prog 47 #[.slice m.wa m.s.writes.length m.wc, .func (.func 56) #[] #[.pointer (some ⟨X, 0, none⟩)]] W (RetBox W (.bool (m.s.writes.any fun x => writesP r.m.s x))) := fun r hrm X W hb hX =>
  containsF_any 56 #[.pointer (some ⟨X, 0, none⟩)] (fun x => writesP r.m.s x) m.s.writes m.wa m.s.writes.length m.wc W (hm.below hb).writes rfl (by omega) eg (fun x hx Z hZ => besideFn_any r (hright r hrm) x (hm.words.writes x hx) X Z (((hparts r hrm).ok.below hb).below hZ) ((hZ.block _ (lt_of_block hX)).trans hX))
 obtain ⟨R, hR⟩ : ∃ R, R = besideP c m.s := ⟨_, rfl⟩
 rw [← hR]
 unfold besideP at hR
 obtain ⟨S0, hS0⟩ : ∃ S0, S0 = summaryP c m.s := ⟨_, rfl⟩
 rw [← hS0] at hR hsu
 obtain ⟨sw, so, sl, sm⟩ := S0
 unfold LookP.agg at hsu
 have HSU := Lib.hid hsu
 have HR := Lib.hid hR
 have HM1 := Lib.hid hm1
 have HM2 := Lib.hid hm2
 have HCN := Lib.hid hcn
 have HROW := Lib.hid hrow
 have HRL := Lib.hid hrl
 have HA := Lib.hid hA
 have hmemb : ∀ (i : Nat) r, c.recs[i]? = some r → r ∈ c.recs := fun i r h => List.mem_of_getElem? h
 have HMB := Lib.hid hmemb
 have hn32 : rn ≤ 32 := by omega
 clear hsu hR hm1 hm2 hcn hrow hrl hparts hright hS0 hmemb eg hc hm hr hA hkl hk32 hlw
 obtain ⟨Y, hY⟩ : ∃ Y, Y = (w.alloc (.cells #[.int .i64 m.s.session, .int .i64 m.s.seq, .int .i64 m.s.snap, .slice m.ra m.s.reads.length m.rc, .slice m.sa m.s.spans.length m.sc, .slice m.wa m.s.writes.length m.wc] 26)).alloc (.cells #[.bool false, .bool false, .int .i64 0, .int .i64 0] 73) := ⟨_, rfl⟩
 have hbY : Below w.heap.size w Y := hY ▸ below_alloc (below_alloc (Below.refl _ _) _) _
 have hYB : Y.heap[w.heap.size]? = some (.cells #[.int .i64 m.s.session, .int .i64 m.s.seq, .int .i64 m.s.snap, .slice m.ra m.s.reads.length m.rc, .slice m.sa m.s.spans.length m.sc, .slice m.wa m.s.writes.length m.wc] 26 (0, 0)) := hY ▸ alloc_keep (heap_alloc_new w _) _
 have hYL : Y.heap[w.heap.size + 1]? = some (.cells #[.bool false, .bool false, .int .i64 0, .int .i64 0] 73 (0, 0)) := hY ▸ alloc_new1 _ _ _
 obtain ⟨c0, c1, c2, c3, c4, c5⟩ := six_cells hYB
 have HBY := Lib.hid hbY
 have HYB := Lib.hid hYB
 have HYL := Lib.hid hYL
 clear hbY hYB hYL
 unfold SubM.args at HSU
 rw [show #[.pointer (some ⟨A, 0, none⟩), m.args] = #[Value.pointer (some ⟨A, 0, none⟩), .agg #[.int .i64 m.s.session, .int .i64 m.s.seq, .int .i64 m.s.snap, .slice m.ra m.s.reads.length m.rc, .slice m.sa m.s.spans.length m.sc, .slice m.wa m.s.writes.length m.wc]] from rfl]
 go_enter Tryz.func24, Tryz.ntmps24
 go_upto_region 1 with fail
 rw [← hY]
 clear hY
 go_wp2_with fail
 refine (HSU.out _ HBY.out).mono ?_
 rintro e w1 ⟨rfl, hb1⟩
 have hE : w.heap.size + 2 ≤ w1.heap.size := Nat.le_trans (lt_of_block HYL.out) hb1.size
 obtain ⟨Z, hZ⟩ : ∃ Z, Z = w1.alloc (.cells #[.bool sw, .bool so, .int .i64 sl, .int .i64 sm] 73) := ⟨_, rfl⟩
 have BZ : Hid (Below w.heap.size w Z) := hZ ▸ below_alloc (below_then HBY.out hb1) _
 have CZ : Hid (Z.heap[w.heap.size]? = some (.cells #[.int .i64 m.s.session, .int .i64 m.s.seq, .int .i64 m.s.snap, .slice m.ra m.s.reads.length m.rc, .slice m.sa m.s.spans.length m.sc, .slice m.wa m.s.writes.length m.wc] 26 (0, 0))) := hZ ▸ alloc_keep ((hb1.block _ (lt_of_block HYB.out)).trans HYB.out) _
 have DZ : Hid (Z.heap[w.heap.size + 1]? = some (.cells #[.bool false, .bool false, .int .i64 0, .int .i64 0] 73 (0, 0))) := hZ ▸ alloc_keep ((hb1.block _ (lt_of_block HYL.out)).trans HYL.out) _
 have EZ : Hid (Z.heap[w1.heap.size]? = some (.cells #[.bool sw, .bool so, .int .i64 sl, .int .i64 sm] 73 (0, 0))) := hZ ▸ heap_alloc_new w1 _
 obtain ⟨E, hEE⟩ : ∃ E, E = w1.heap.size := ⟨_, rfl⟩
 have HEE := Lib.hid hEE
 rw [← hEE] at EZ hE
 clear hb1 c0 c1 c2 c3 c4 c5 hEE
 go_upto_region 2 with fail
 rw [← hZ, ← HEE.out]
 have HA5 := (nine_cells ((BZ.out.block A (lt_of_block HA.out)).trans HA.out)).2.2.2.2.1
 clear hZ HEE
 go_wp2_with fail
 clear HA5
 go_loopg [16] rn (fun g s16 wx => ∃ (kk : Nat) (bw bo : Bool) (le mo : Int), s16 = .int .i64 kk ∧ kk ≤ rn ∧ g = rn - kk ∧ Hid (R = (c.recs.drop kk).foldl (besideStep m.s) ⟨bw, bo, le, mo⟩) ∧ Hid (Below w.heap.size w wx) ∧ Hid (wx.heap[w.heap.size]? = some (.cells #[.int .i64 m.s.session, .int .i64 m.s.seq, .int .i64 m.s.snap, .slice m.ra m.s.reads.length m.rc, .slice m.sa m.s.spans.length m.sc, .slice m.wa m.s.writes.length m.wc] 26 (0, 0))) ∧ Hid (wx.heap[w.heap.size + 1]? = some (.cells #[.bool false, .bool false, .int .i64 0, .int .i64 0] 73 (0, 0))) ∧ Hid (wx.heap[E]? = some (.cells #[.bool bw, .bool bo, .int .i64 le, .int .i64 mo] 73 (0, 0))))
 case atStart => exact ⟨0, sw, so, sl, sm, rfl, Nat.zero_le _, rfl, HR.out, BZ, CZ, DZ, EZ⟩
 case round =>
  obtain ⟨kk, bw, bo, le, mo, rfl, hkk, rfl, HQ, Bwr, Cwr, Dwr, Ewr⟩ := hrel
  have hk0 : (0 : Int) ≤ (kk : Int) := by omega
  have hnat : ((kk : Int)).toNat = kk := by omega
  by_cases hlt : kk < rn
  · obtain ⟨r, hx⟩ : ∃ r, c.recs[kk]? = some r := ⟨_, List.getElem?_eq_getElem (by rw [HRL.out]; exact hlt)⟩
    have hxm := HMB.out kk r hx
    obtain ⟨b, off, rfl, hcells⟩ := rec_at (HROW.out.below Bwr.out) HRL.out kk hlt r hx
    obtain ⟨e0, e1, e2, e3, e4, e5, e6, e7⟩ := rec_cells hcells
    have hkn : (kk : Int) < (rn : Int) := by omega
    have hq := HQ.out
    rw [drop_at hx] at hq
    replace hq : R = (c.recs.drop (kk + 1)).foldl (besideStep m.s) (besideStep m.s ⟨bw, bo, le, mo⟩ r) := hq
    have ha1 := HM1.out r hxm
    have ha2 := HM2.out r hxm
    have ha3 := HCN.out r hxm
    unfold besideStep at hq
    simp only at hq
    obtain ⟨M1, hM1⟩ : ∃ M1, M1 = meetsP m.s r.m.s := ⟨_, rfl⟩
    obtain ⟨M2, hM2⟩ : ∃ M2, M2 = meetsP r.m.s m.s := ⟨_, rfl⟩
    obtain ⟨WW, hWW⟩ : ∃ WW, WW = m.s.writes.any (fun x => writesP r.m.s x) := ⟨_, rfl⟩
    have HQ2 : Hid (R = (c.recs.drop (kk + 1)).foldl (besideStep m.s) (if r.num ≤ m.s.snap then ⟨bw, bo, le, mo⟩ else ⟨bw || WW, bo || (M1 && r.out), if M1 && decide (le = 0) then r.num else le, if M2 then r.num else mo⟩)) := by rw [hM1, hM2, hWW]; exact hq
    rw [← hM1] at ha1
    rw [← hM2] at ha2
    rw [← hWW] at ha3
    have HA1 := Lib.hid ha1
    have HA2 := Lib.hid ha2
    have HA3 := Lib.hid ha3
    unfold SubM.args at HA1 HA2
    clear hx hxm hcells hq ha1 ha2 ha3 hM1 hM2 hWW
    obtain ⟨Y2, hY2⟩ : ∃ Y2, Y2 = wr.alloc (.cells #[.int .i64 r.num, .int .i64 r.m.s.session, .int .i64 r.m.s.seq, .int .i64 r.m.s.snap, .slice r.m.ra r.m.s.reads.length r.m.rc, .slice r.m.sa r.m.s.spans.length r.m.sc, .slice r.m.wa r.m.s.writes.length r.m.wc, .bool r.out] 77) := ⟨_, rfl⟩
    obtain ⟨X, hX⟩ : ∃ X, X = wr.heap.size := ⟨_, rfl⟩
    have HX := Lib.hid hX
    have hEl := lt_of_block Ewr.out
    have BY : Hid (Below w.heap.size w Y2) := hY2 ▸ below_alloc Bwr.out _
    have CY : Hid (Y2.heap[w.heap.size]? = some (.cells #[.int .i64 m.s.session, .int .i64 m.s.seq, .int .i64 m.s.snap, .slice m.ra m.s.reads.length m.rc, .slice m.sa m.s.spans.length m.sc, .slice m.wa m.s.writes.length m.wc] 26 (0, 0))) := hY2 ▸ alloc_keep Cwr.out _
    have DY : Hid (Y2.heap[w.heap.size + 1]? = some (.cells #[.bool false, .bool false, .int .i64 0, .int .i64 0] 73 (0, 0))) := hY2 ▸ alloc_keep Dwr.out _
    have EY : Hid (Y2.heap[E]? = some (.cells #[.bool bw, .bool bo, .int .i64 le, .int .i64 mo] 73 (0, 0))) := hY2 ▸ alloc_keep Ewr.out _
    have FY : Hid (Y2.heap[X]? = some (.cells #[.int .i64 r.num, .int .i64 r.m.s.session, .int .i64 r.m.s.seq, .int .i64 r.m.s.snap, .slice r.m.ra r.m.s.reads.length r.m.rc, .slice r.m.sa r.m.s.spans.length r.m.sc, .slice r.m.wa r.m.s.writes.length r.m.wc, .bool r.out] 77 (0, 0))) := hX ▸ hY2 ▸ heap_alloc_new wr _
    rw [← hX] at hEl
    have HY2 := Lib.hid hY2
    clear hX hY2
    go_upto_region 5 with fail
    rw [← HY2.out, ← HX.out]
    clear e0 e1 e2 e3 e4 e5 e6 e7 HX HY2
    have x0 := (rec_block FY.out).1
    have y2 := (six_cells CY.out).2.2.1
    by_cases hle : r.num ≤ m.s.snap
    · have HQ3 : Hid (R = (c.recs.drop (kk + 1)).foldl (besideStep m.s) ⟨bw, bo, le, mo⟩) := by have := HQ2.out; rw [if_pos hle] at this; exact this
      go_wp2_with fail
      go_roundg (rn - (kk + 1))
      case measure => omega
      case rel => exact ⟨kk + 1, bw, bo, le, mo, by go_num, by omega, rfl, HQ3.out, BY, CY, DY, EY⟩
    · have HQ3 : Hid (R = (c.recs.drop (kk + 1)).foldl (besideStep m.s) ⟨bw || WW, bo || (M1 && r.out), if M1 && decide (le = 0) then r.num else le, if M2 then r.num else mo⟩) := by have := HQ2.out; rw [if_neg hle] at this; exact this
      go_upto_region 6 with fail
      clear HQ2 x0 y2
      -- a key that it writes
      obtain ⟨bv, hbv⟩ : ∃ bv, bv = (bw || WW) := ⟨_, rfl⟩
      rw [← hbv] at HQ3
      have HBV := Lib.hid hbv
      clear hbv
      go_cut [] (fun wx => Hid (Below w.heap.size w wx) ∧ Hid (wx.heap[w.heap.size]? = some (.cells #[.int .i64 m.s.session, .int .i64 m.s.seq, .int .i64 m.s.snap, .slice m.ra m.s.reads.length m.rc, .slice m.sa m.s.spans.length m.sc, .slice m.wa m.s.writes.length m.wc] 26 (0, 0))) ∧ Hid (wx.heap[w.heap.size + 1]? = some (.cells #[.bool false, .bool false, .int .i64 0, .int .i64 0] 73 (0, 0))) ∧ Hid (wx.heap[E]? = some (.cells #[.bool bv, .bool bo, .int .i64 le, .int .i64 mo] 73 (0, 0))) ∧ Hid (wx.heap[X]? = some (.cells #[.int .i64 r.num, .int .i64 r.m.s.session, .int .i64 r.m.s.seq, .int .i64 r.m.s.snap, .slice r.m.ra r.m.s.reads.length r.m.rc, .slice r.m.sa r.m.s.spans.length r.m.sc, .slice r.m.wa r.m.s.writes.length r.m.wc, .bool r.out] 77 (0, 0))))
      case first =>
       have z0 := (four_cells EY.out).1.1
       have g0 := (four_cells EY.out).2.1
       have y5 := (six_cells CY.out).2.2.2.2.2
       cases bw with
       | true =>
         have HBV2 : Hid (bv = true) := HBV.out
         clear HBV
         go_wp2_with fail
         go_meet
         exact ⟨below_set BY.out _ (by omega), set_far CY.out (by omega), set_far DY.out (by omega), by rw [HBV2.out]; exact set_block (i := 0) EY.out _, set_far FY.out (by omega)⟩
       | false =>
         have HBV2 : Hid (bv = WW) := by show _ = _; rw [HBV.out]; rfl
         clear HBV
         go_wp2_with fail
         refine (HA3.out X _ BY.out FY.out).mono ?_
         rintro e w3 ⟨rfl, hbw3⟩
         have Bw3 : Hid (Below w.heap.size w w3) := below_then BY.out hbw3
         have Cw3 : Hid (w3.heap[w.heap.size]? = _) := (hbw3.block _ (lt_of_block CY.out)).trans CY.out
         have Dw3 : Hid (w3.heap[w.heap.size + 1]? = _) := (hbw3.block _ (lt_of_block DY.out)).trans DY.out
         have Ew3 : Hid (w3.heap[E]? = _) := (hbw3.block _ (lt_of_block EY.out)).trans EY.out
         have Fw3 : Hid (w3.heap[X]? = _) := (hbw3.block _ (lt_of_block FY.out)).trans FY.out
         have hsw3 := hbw3.size
         clear hbw3
         have g1 := (four_cells Ew3.out).2.1
         have z1 := (four_cells Ew3.out).1.1
         go_wp2_with fail
         go_meet
         exact ⟨below_set Bw3.out _ (by omega), set_far Cw3.out (by omega), set_far Dw3.out (by omega), by rw [HBV2.out]; exact set_block (i := 0) Ew3.out _, set_far Fw3.out (by omega)⟩
      case rest =>
      obtain ⟨Bwc, Cwc, Dwc, Ewc, Fwc⟩ := hcut
      obtain ⟨w4, hw4⟩ : ∃ w4, w4 = wc := ⟨_, rfl⟩
      rw [← hw4] at Bwc Cwc Dwc Ewc Fwc ⊢
      clear hw4 BY CY DY EY FY HBV HA3
      -- does it come ahead of the transaction?
      obtain ⟨y0, y1, y2, y3, y4, y5⟩ := six_cells Cwc.out
      obtain ⟨x0, x1, x2, x3, x4, x5, x6, x7⟩ := rec_block Fwc.out
      go_wp2_with fail
      clear y0 y1 y2 y3 y4 y5 x0 x1 x2 x3 x4 x5 x6 x7
      refine (HA1.out _ Bwc.out).mono ?_
      rintro e w5 ⟨rfl, hbw5⟩
      have Bw5 : Hid (Below w.heap.size w w5) := below_then Bwc.out hbw5
      have Cw5 : Hid (w5.heap[w.heap.size]? = _) := (hbw5.block _ (lt_of_block Cwc.out)).trans Cwc.out
      have Dw5 : Hid (w5.heap[w.heap.size + 1]? = _) := (hbw5.block _ (lt_of_block Dwc.out)).trans Dwc.out
      have Ew5 : Hid (w5.heap[E]? = _) := (hbw5.block _ (lt_of_block Ewc.out)).trans Ewc.out
      have Fw5 : Hid (w5.heap[X]? = _) := (hbw5.block _ (lt_of_block Fwc.out)).trans Fwc.out
      have hsw5 := hbw5.size
      clear hbw5
      clear Bwc Cwc Dwc Ewc Fwc HA1
      obtain ⟨bp, hbp⟩ : ∃ bp, bp = (bo || (M1 && r.out)) := ⟨_, rfl⟩
      obtain ⟨lf, hlf⟩ : ∃ lf, lf = (if M1 && decide (le = 0) then r.num else le) := ⟨_, rfl⟩
      rw [← hbp, ← hlf] at HQ3
      have HBP := Lib.hid hbp
      have HLF := Lib.hid hlf
      clear hbp hlf
      go_upto_if 39 with fail
      go_cut [] (fun wx => Hid (Below w.heap.size w wx) ∧ Hid (wx.heap[w.heap.size]? = some (.cells #[.int .i64 m.s.session, .int .i64 m.s.seq, .int .i64 m.s.snap, .slice m.ra m.s.reads.length m.rc, .slice m.sa m.s.spans.length m.sc, .slice m.wa m.s.writes.length m.wc] 26 (0, 0))) ∧ Hid (wx.heap[w.heap.size + 1]? = some (.cells #[.bool false, .bool false, .int .i64 0, .int .i64 0] 73 (0, 0))) ∧ Hid (wx.heap[E]? = some (.cells #[.bool bv, .bool bp, .int .i64 lf, .int .i64 mo] 73 (0, 0))) ∧ Hid (wx.heap[X]? = some (.cells #[.int .i64 r.num, .int .i64 r.m.s.session, .int .i64 r.m.s.seq, .int .i64 r.m.s.snap, .slice r.m.ra r.m.s.reads.length r.m.rc, .slice r.m.sa r.m.s.spans.length r.m.sc, .slice r.m.wa r.m.s.writes.length r.m.wc, .bool r.out] 77 (0, 0))))
      case first =>
       have z1 := (four_cells Ew5.out).1.2.1
       have z2 := (four_cells Ew5.out).1.2.2.1
       have g1 := (four_cells Ew5.out).2.2.1
       have g2 := (four_cells Ew5.out).2.2.2.1
       have x0 := (rec_block Fw5.out).1
       have x7 := (rec_block Fw5.out).2.2.2.2.2.2.2
       cases M1 with
       | false =>
         have h1 : Hid (bp = bo) := by show _ = _; rw [HBP.out]; simp
         have h2 : Hid (lf = le) := by show _ = _; rw [HLF.out]; simp
         clear HBP HLF
         go_wp2_with fail
         go_meet
         exact ⟨Bw5, Cw5, Dw5, by rw [h1.out, h2.out]; exact Ew5, Fw5⟩
       | true =>
         cases bo with
         | true =>
           have h1 : Hid (bp = true) := by show _ = _; rw [HBP.out]; rfl
           by_cases hle0 : le = 0
           · have h2 : Hid (lf = r.num) := by show _ = _; rw [HLF.out]; simp [hle0]
             clear HBP HLF
             go_wp2_with fail
             go_meet
             exact ⟨below_set (below_set Bw5.out _ (by omega)) _ (by omega), set_far (set_far Cw5.out (by omega)) (by omega), set_far (set_far Dw5.out (by omega)) (by omega), by rw [h1.out, h2.out]; exact set_block (i := 2) (set_block (i := 1) Ew5.out _) _, set_far (set_far Fw5.out (by omega)) (by omega)⟩
           · have h2 : Hid (lf = le) := by show _ = _; rw [HLF.out]; simp [hle0]
             clear HBP HLF
             go_wp2_with fail
             go_meet
             exact ⟨below_set Bw5.out _ (by omega), set_far Cw5.out (by omega), set_far Dw5.out (by omega), by rw [h1.out, h2.out]; exact set_block (i := 1) Ew5.out _, set_far Fw5.out (by omega)⟩
         | false =>
           have h1 : Hid (bp = r.out) := by show _ = _; rw [HBP.out]; simp
           by_cases hle0 : le = 0
           · have h2 : Hid (lf = r.num) := by show _ = _; rw [HLF.out]; simp [hle0]
             clear HBP HLF
             go_wp2_with fail
             go_meet
             exact ⟨below_set (below_set Bw5.out _ (by omega)) _ (by omega), set_far (set_far Cw5.out (by omega)) (by omega), set_far (set_far Dw5.out (by omega)) (by omega), by rw [h1.out, h2.out]; exact set_block (i := 2) (set_block (i := 1) Ew5.out _) _, set_far (set_far Fw5.out (by omega)) (by omega)⟩
           · have h2 : Hid (lf = le) := by show _ = _; rw [HLF.out]; simp [hle0]
             clear HBP HLF
             go_wp2_with fail
             go_meet
             exact ⟨below_set Bw5.out _ (by omega), set_far Cw5.out (by omega), set_far Dw5.out (by omega), by rw [h1.out, h2.out]; exact set_block (i := 1) Ew5.out _, set_far Fw5.out (by omega)⟩
      case rest =>
      obtain ⟨Bwc, Cwc, Dwc, Ewc, Fwc⟩ := hcut
      obtain ⟨w4, hw4⟩ : ∃ w4, w4 = wc := ⟨_, rfl⟩
      rw [← hw4] at Bwc Cwc Dwc Ewc Fwc ⊢
      clear hw4 Bw5 Cw5 Dw5 Ew5 Fw5 HBP HLF
      -- does the transaction come ahead of it?
      obtain ⟨y0, y1, y2, y3, y4, y5⟩ := six_cells Cwc.out
      obtain ⟨x0, x1, x2, x3, x4, x5, x6, x7⟩ := rec_block Fwc.out
      go_wp2_with fail
      clear y0 y1 y2 y3 y4 y5 x0 x1 x2 x3 x4 x5 x6 x7
      refine (HA2.out _ Bwc.out).mono ?_
      rintro e w6 ⟨rfl, hbw6⟩
      have Bw6 : Hid (Below w.heap.size w w6) := below_then Bwc.out hbw6
      have Cw6 : Hid (w6.heap[w.heap.size]? = _) := (hbw6.block _ (lt_of_block Cwc.out)).trans Cwc.out
      have Dw6 : Hid (w6.heap[w.heap.size + 1]? = _) := (hbw6.block _ (lt_of_block Dwc.out)).trans Dwc.out
      have Ew6 : Hid (w6.heap[E]? = _) := (hbw6.block _ (lt_of_block Ewc.out)).trans Ewc.out
      have Fw6 : Hid (w6.heap[X]? = _) := (hbw6.block _ (lt_of_block Fwc.out)).trans Fwc.out
      have hsw6 := hbw6.size
      clear hbw6
      clear Bwc Cwc Dwc Ewc Fwc HA2
      obtain ⟨mp, hmp⟩ : ∃ mp, mp = (if M2 then r.num else mo) := ⟨_, rfl⟩
      rw [← hmp] at HQ3
      have HMP := Lib.hid hmp
      clear hmp
      have x0 := (rec_block Fw6.out).1
      have g3 := (four_cells Ew6.out).2.2.2.2
      have z3 := (four_cells Ew6.out).1.2.2.2
      cases M2 with
      | true =>
        have h1 : Hid (mp = r.num) := HMP.out
        clear HMP
        go_wp2_with fail
        go_roundg (rn - (kk + 1))
        case measure => omega
        case rel => exact ⟨kk + 1, bv, bp, lf, mp, by go_num, by omega, rfl, HQ3.out, below_set Bw6.out _ (by omega), set_far Cw6.out (by omega), set_far Dw6.out (by omega), by rw [h1.out]; exact set_block (i := 3) Ew6.out _⟩
      | false =>
        have h1 : Hid (mp = mo) := HMP.out
        clear HMP
        go_wp2_with fail
        go_roundg (rn - (kk + 1))
        case measure => omega
        case rel => exact ⟨kk + 1, bv, bp, lf, mp, by go_num, by omega, rfl, HQ3.out, Bw6, Cw6, Dw6, by rw [h1.out]; exact Ew6⟩
  · obtain rfl : kk = rn := by omega
    have hq := HQ.out
    rw [List.drop_of_length_le (by rw [HRL.out]; exact Nat.le_refl _)] at hq
    have HQ4 : Hid (R = ⟨bw, bo, le, mo⟩) := hq
    obtain ⟨z0, z1, z2, z3⟩ := (four_cells Ewr.out).1
    obtain ⟨⟨d0, d1, d2, d3⟩, g0, g1, g2, g3⟩ := four_cells Dwr.out
    clear hq
    go_wp2_with fail
    have hb := below_set4 Bwr.out (B := w.heap.size + 1) (by omega) (.bool bw) (.bool bo) (.int .i64 le) (.int .i64 mo)
    refine bodyPost_ret (results_cell Tryz.results24 rfl (load_look (set4 Dwr.out (.bool bw) (.bool bo) (.int .i64 le) (.int .i64 mo)))) rfl ⟨?_, hb⟩
    rw [HQ4.out]; rfl
end Go.Proofs.YtpknmfmpiachkaaGreat
