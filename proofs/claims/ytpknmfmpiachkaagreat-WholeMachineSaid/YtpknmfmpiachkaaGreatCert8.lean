/- cert's sum: the walk. -/
import Derived.Test.YtpknmfmpiachkaaGreatCert7
namespace Go.Proofs.YtpknmfmpiachkaaGreat
open Go.RowKit
theorem SumS.cells {κ : Nat → Nat} {w : World} {k A B E : Nat} {c : CertV} {N1 N2 N3 N4 old : Nat} {a : Option Addr} {n cap : Nat} {rs : List RecV} {r : RecV} {κ' : Nat → Nat} {wx : World} {l1 l2 l3 : List VI} {p : List PI} {bad : Bool}
 (h : SumS κ w k A B E (certCells c a n cap N1 N2 N3 N4) N1 N2 N3 N4 old a n cap rs r κ' wx l1 l2 l3 p bad) :
 wx.cell? ⟨A, 5, none⟩ = some (.pointer (some ⟨N1, 0, none⟩)) ∧ wx.cell? ⟨A, 6, none⟩ = some (.pointer (some ⟨N2, 0, none⟩)) ∧ wx.cell? ⟨A, 7, none⟩ = some (.pointer (some ⟨N3, 0, none⟩)) ∧ wx.cell? ⟨A, 8, none⟩ = some (.pointer (some ⟨N4, 0, none⟩)) ∧ wx.cell? ⟨B, 0, none⟩ = some (.int .i64 r.num) := by
 obtain ⟨_, _, _, _, _, q5, q6, q7, q8⟩ := nine_cells (show wx.heap[A]? = some (.cells #[_, _, _, _, _, _, _, _, _] _ _) from h.cert)
 exact ⟨q5, q6, q7, q8, (rec_block (r := r) h.rcd).1⟩
theorem SumS.chg0 {κ : Nat → Nat} {w : World} {k A B E : Nat} {C : Array Value} {N1 N2 N3 N4 old : Nat} {a : Option Addr} {n cap : Nat} {rs : List RecV} {r : RecV} {κ' κ'' : Nat → Nat} {wx w1 : World} {l1 l2 l3 : List VI} {p : List PI} {bad : Bool}
 (h : SumS κ w k A B E C N1 N2 N3 N4 old a n cap rs r κ' wx l1 l2 l3 p bad) (hc : Chg (fun _ => False) κ' κ'' wx w1) : SumS κ w k A B E C N1 N2 N3 N4 old a n cap rs r κ'' w1 l1 l2 l3 p bad :=
 ⟨h.chg.trans (hc.mono fun _ h => h.elim), (hc.block A (lt_of_block h.cert) id).trans h.cert, (hc.paint A (lt_of_block h.cert)).trans h.colA, h.t1.chg hc id, h.t2.chg hc id, h.t3.chg hc id, h.t4.chg hc id, h.s1, h.s2, h.s3, h.s4, h.recs.chg hc id id, h.parts.chg hc id,
  (hc.block B (lt_of_block h.rcd) id).trans h.rcd, (hc.paint B (lt_of_block h.rcd)).trans h.colB, (hc.block E (lt_of_block h.e) id).trans h.e, (hc.paint E (lt_of_block h.e)).trans h.colE⟩
theorem chg_tint {κ : Nat → Nat} {i : Nat} {a b : World} (h : Below a.heap.size a b) : Chg (fun _ => False) κ (tint a κ i) a b := ⟨h.os, h.tape, h.output, h.size, fun _ hg => tint_old hg, fun g hg _ => h.block g hg⟩
def SumPost (κ : Nat → Nat) (w : World) (k A : Nat) (c : CertV) (e : Ending) (w' : World) : Prop :=
 e = .returned (.tuple #[]) ∧ ∃ κ', Chg (fun i => k ≤ i ∧ i ≤ k + 9) κ κ' w w' ∧ CertAt w' κ' k A c
theorem SumS.done {κ : Nat → Nat} {w : World} {k A B E : Nat} {c : CertV} {N1 N2 N3 N4 : Nat} {a : Option Addr} {n cap : Nat} {r : RecV} {κ' : Nat → Nat} {wx : World} {l1 l2 l3 : List VI} {p : List PI} {bad : Bool}
 (h : SumS κ w k A B E (certCells c a n cap N1 N2 N3 N4) N1 N2 N3 N4 c.old a n cap c.recs r κ' wx l1 l2 l3 p bad) : SumPost κ w k A { c with wrote := l1, wroteOut := l2, read := l3, spans := p } (.returned (.tuple #[])) wx :=
 ⟨rfl, κ', h.chg, N1, N2, N3, N4, a, n, cap, h.cert, h.colA, h.t1, h.t2, h.t3, h.t4, h.recs⟩
theorem SumS.done2 {κ : Nat → Nat} {w : World} {k A B E : Nat} {c : CertV} {N1 N2 N3 N4 : Nat} {a : Option Addr} {n cap : Nat} {r : RecV} {κ' : Nat → Nat} {wx : World} {l1 l2 l3 : List VI} {p : List PI} {bad : Bool} (q : Int)
 (h : SumS κ w k A B E (certCells c a n cap N1 N2 N3 N4) N1 N2 N3 N4 c.old a n cap c.recs r κ' wx l1 l2 l3 p bad) : SumPost κ w k A { c with wrote := l1, wroteOut := l2, read := l3, spans := p, horizon := q } (.returned (.tuple #[])) (wx.setCell ⟨A, 3, none⟩ (.int .i64 q)) := by
 have hc : Chg (· = k) κ' κ' wx (wx.setCell ⟨A, 3, none⟩ (.int .i64 q)) := Chg.of_grown (grown_set wx A 3 _) h.colA
 exact ⟨rfl, κ', h.chg.trans (hc.mono fun i hi => by omega), N1, N2, N3, N4, a, n, cap, set_block (i := 3) h.cert _, h.colA, h.t1.chg hc (by omega), h.t2.chg hc (by omega), h.t3.chg hc (by omega), h.t4.chg hc (by omega), h.recs.chg hc (by omega) (by omega)⟩
set_option maxRecDepth 100000 in
set_option maxHeartbeats 25600000 in
theorem sum_any (κ : Nat → Nat) (k A : Nat) (c : CertV) (hcw : SortedV c.wrote) (hco : SortedV c.wroteOut) (hcr : SortedV c.read) (hcs : SortedP c.spans) (r : RecV) (hr : r.m.s.Right) (hnum : 1 ≤ r.num ∧ r.num ≤ 1099511627776) (w : World) (hC : CertAt w κ k A c) (hp : PartsAt w κ (k + 6) r.m) :
 Calls Tryz.prog 26 #[.pointer (some ⟨A, 0, none⟩), .agg r.cells.toArray] w (SumPost κ w k A (sumP c r)) := by
 obtain ⟨N1, N2, N3, N4, ca, cn, ccap, hA, hcA, hT1, hT2, hT3, hT4, hrecs⟩ := hC
 obtain ⟨Y, hY⟩ : ∃ Y, Y = (w.alloc (.cells r.cells.toArray 77)).alloc (.cells #[.int .i64 0] 33) := ⟨_, rfl⟩
 have hbY : Below w.heap.size w Y := hY ▸ below_alloc (below_alloc (Below.refl _ _) _) _
 have hc0 : Chg (fun _ => False) κ (fun g => if g = w.heap.size then k + 7 else if g = w.heap.size + 1 then k + 8 else κ g) w Y := ⟨hbY.os, hbY.tape, hbY.output, hbY.size, fun g hg => by show (if g = w.heap.size then k + 7 else if g = w.heap.size + 1 then k + 8 else κ g) = _; rw [if_neg (by omega), if_neg (by omega)], fun g hg _ => hbY.block g hg⟩
 obtain ⟨κ0, hκ0⟩ : ∃ κ0 : Nat → Nat, κ0 = (fun g => if g = w.heap.size then k + 7 else if g = w.heap.size + 1 then k + 8 else κ g) := ⟨_, rfl⟩
 rw [← hκ0] at hc0
 have hE0 : Y.heap[w.heap.size + 1]? = some (.cells #[.int .i64 (ec false)] 33 (0, 0)) := by rw [hY]; exact alloc_new1 _ _ _
 have hS0 : SumS κ w k A w.heap.size (w.heap.size + 1) (certCells c ca cn ccap N1 N2 N3 N4) N1 N2 N3 N4 c.old ca cn ccap c.recs r κ0 Y c.wrote c.wroteOut c.read c.spans false :=
  ⟨hc0.mono fun _ h => h.elim, (hbY.block A (lt_of_block hA)).trans hA, (hc0.paint A (lt_of_block hA)).trans hcA, hT1.chg hc0 id, hT2.chg hc0 id, hT3.chg hc0 id, hT4.chg hc0 id, hcw, hco, hcr, hcs, hrecs.chg hc0 id id, hp.chg hc0 id, hY ▸ alloc_keep (heap_alloc_new w _) _, by rw [hκ0]; simp, hE0, by rw [hκ0]; simp⟩
 obtain ⟨SM, hSM⟩ : ∃ SM, SM = sumP c r := ⟨_, rfl⟩
 rw [← hSM]
 unfold sumP at hSM
 obtain ⟨F1, hF1⟩ : ∃ F1, F1 = sum1 c r := ⟨_, rfl⟩
 obtain ⟨F2, hF2⟩ : ∃ F2, F2 = sum2 c r := ⟨_, rfl⟩
 obtain ⟨F3, hF3⟩ : ∃ F3, F3 = sum3 c r := ⟨_, rfl⟩
 rw [← hF1, ← hF2, ← hF3] at hSM
 unfold sum1 at hF1
 unfold sum2 at hF2
 unfold sum3 at hF3
 rw [show sum1 c r = F1 by rw [hF1]; rfl] at hF2
 rw [show sum2 c r = F2 by rw [hF2, hF1]; rfl] at hF3
 have hlr := hr.lr
 have hls := hr.ls
 have hlw := hr.lw
 have hreads := hr.reads
 have hwrites := hr.writes
 have hspans := hr.spans
 obtain ⟨num, ⟨ms, ra, rc, sa, sc, wa, wk⟩, out⟩ := r
 simp only at hF1 hF2 hF3 hlr hls hlw hreads hwrites hspans hnum hSM
 have HS0 := Lib.hid hS0
 have HSM := Lib.hid hSM
 have HF1 := Lib.hid hF1
 have HF2 := Lib.hid hF2
 have HF3 := Lib.hid hF3
 have HWR := Lib.hid hwrites
 have HRD := Lib.hid hreads
 have HSP := Lib.hid hspans
 obtain ⟨num1, num2⟩ := hnum
 have hge : w.heap.size + 2 ≤ Y.heap.size := lt_of_block hE0
 clear hS0 hSM hF1 hF2 hF3 hwrites hreads hspans hE0 hc0 hbY hT1 hT2 hT3 hT4 hrecs hA hcA hp hκ0 hr hcw hco hcr hcs
 have hkeep : ∀ Z : World, Z.heap[A]? = some (.cells (certCells c ca cn ccap N1 N2 N3 N4) 70 (0, 0)) → Z.heap[w.heap.size]? = some (.cells (RecV.mk num (SubM.mk ms ra rc sa sc wa wk) out).cells.toArray 77 (0, 0)) → (fun w' : World => w'.cell? ⟨A, 5, none⟩ = some (.pointer (some ⟨N1, 0, none⟩)) ∧ w'.cell? ⟨A, 6, none⟩ = some (.pointer (some ⟨N2, 0, none⟩)) ∧ w'.cell? ⟨A, 7, none⟩ = some (.pointer (some ⟨N3, 0, none⟩)) ∧ w'.cell? ⟨A, 8, none⟩ = some (.pointer (some ⟨N4, 0, none⟩)) ∧ w'.cell? ⟨w.heap.size, 0, none⟩ = some (.int .i64 num)) Z := fun Z hA hB => by
  obtain ⟨_, _, _, _, _, q5, q6, q7, q8⟩ := nine_cells (show Z.heap[A]? = some (.cells #[_, _, _, _, _, _, _, _, _] _ _) from hA)
  exact ⟨q5, q6, q7, q8, (rec_block hB).1⟩
 have HKEEP := Lib.hid hkeep
 clear hkeep
 have hi64 : ∀ x w, (invoke (.fn (.method "Clear") #[]) #[.iface 64 x]).run Tryz.prog w = .ok (.enter 219 #[x]) w := fun x w => by kernel_rfl
 have hi66 : ∀ x w, (invoke (.fn (.method "Clear") #[]) #[.iface 66 x]).run Tryz.prog w = .ok (.enter 220 #[x]) w := fun x w => by kernel_rfl
 rw [show (RecV.mk num (SubM.mk ms ra rc sa sc wa wk) out).cells.toArray = #[.int .i64 num, .int .i64 ms.session, .int .i64 ms.seq, .int .i64 ms.snap, .slice ra ms.reads.length rc, .slice sa ms.spans.length sc, .slice wa ms.writes.length wk, .bool out] from rfl] at hY ⊢
 go_enter Tryz.func26, Tryz.ntmps26
 go_upto_region 2 with fail
 rw [← hY]
 clear hY
 have x6 := (rec_block HS0.out.rcd).2.2.2.2.2.2.1
 simp only at x6
 go_wp2_with fail
 clear x6
 go_loopg [20] ms.writes.length (fun g s20 wx => ∃ (kk : Nat) (κ1 : Nat → Nat) (l1 l2 : List VI) (bad : Bool), s20 = .int .i64 kk ∧ kk ≤ ms.writes.length ∧ g = ms.writes.length - kk ∧ Hid (F1 = (ms.writes.drop kk).foldl (step1 c.old num out) (l1, l2, bad)) ∧ Hid (SumS κ w k A w.heap.size (w.heap.size + 1) (certCells c ca cn ccap N1 N2 N3 N4) N1 N2 N3 N4 c.old ca cn ccap c.recs ⟨num, ⟨ms, ra, rc, sa, sc, wa, wk⟩, out⟩ κ1 wx l1 l2 c.read c.spans bad))
 case atStart => exact ⟨0, κ0, c.wrote, c.wroteOut, false, rfl, Nat.zero_le _, rfl, HF1.out, HS0.out⟩
 case round =>
  obtain ⟨kk, κ1, l1, l2, bad, rfl, hkk, rfl, HQ, HS⟩ := hrel
  have hk0 : (0 : Int) ≤ (kk : Int) := by omega
  have hnat : ((kk : Int)).toNat = kk := by omega
  by_cases hlt : kk < ms.writes.length
  · obtain ⟨x, hx⟩ : ∃ x, ms.writes[kk]? = some x := ⟨_, List.getElem?_eq_getElem hlt⟩
    have hkx : KeyOk x := HWR.out x (List.mem_of_getElem? hx)
    have hww : RowN wr wa 1 ms.writes.length (cellsF ms.writes) := HS.out.parts.ok.writes
    obtain ⟨b, off, rfl, e0⟩ := float_at hww kk hlt x hx
    have hkn : (kk : Int) < (ms.writes.length : Int) := by omega
    have hq := HQ.out
    rw [drop_at hx] at hq
    have HQ2 : Hid (F1 = (ms.writes.drop (kk + 1)).foldl (step1 c.old num out) (vDone c.old l1 x num, if out then vDone c.old l2 x num else l2, bad || vFull c.old l1 x || (out && vFull c.old l2 x))) := hq
    have HSRT := Lib.hid (vDone_sorted (old := c.old) HS.out.s1 hkx num)
    have hp1 := put_any κ1 (k + 1) N1 c.old l1 HS.out.s1 x hkx num num1 num2 wr.drew HS.out.drew.t1
    have HKX := Lib.hid hkx
    obtain ⟨f, hf⟩ : ∃ f, f = (if vFull c.old l1 x then (3 : Int) else 0) := ⟨_, rfl⟩
    unfold TPut at hp1
    rw [← hf] at hp1
    have HP1 := Lib.hid hp1
    have HF : Hid (f = ec (vFull c.old l1 x)) := hf
    clear hx hq hp1 hf hww hkx
    go_upto_region 6 with fail
    clear e0
    go_cut [] (fun wx => ∃ κ2, Hid (SumS κ w k A w.heap.size (w.heap.size + 1) (certCells c ca cn ccap N1 N2 N3 N4) N1 N2 N3 N4 c.old ca cn ccap c.recs ⟨num, ⟨ms, ra, rc, sa, sc, (some ⟨b, off, none⟩), wk⟩, out⟩ κ2 wx (vDone c.old l1 x num) l2 c.read c.spans (bad || vFull c.old l1 x)))
    case first =>
     refine wp_region_noPanic ?_
     refine wp_region_held_drew (S := (fun w' => w'.cell? ⟨A, 5, none⟩ = some (.pointer (some ⟨N1, 0, none⟩)) ∧ w'.cell? ⟨A, 6, none⟩ = some (.pointer (some ⟨N2, 0, none⟩)) ∧ w'.cell? ⟨A, 7, none⟩ = some (.pointer (some ⟨N3, 0, none⟩)) ∧ w'.cell? ⟨A, 8, none⟩ = some (.pointer (some ⟨N4, 0, none⟩)) ∧ w'.cell? ⟨w.heap.size, 0, none⟩ = some (.int .i64 num))) (by kernel_rfl) ?_ (fun hHeld0 => ?_)
     · first | exact HKEEP.out _ HS.out.cert HS.out.rcd | exact HKEEP.out _ HS1.out.cert HS1.out.rcd | exact HKEEP.out _ HS2.out.cert HS2.out.rcd
     refine wu 0 rfl ?_
     refine wu 1 rfl ?_
     refine wu 2 rfl ?_
     refine wu 3 rfl ?_
     refine wu 4 rfl ?_
     refine wu 5 rfl ?_
     refine wu 6 rfl ?_
     refine wu 7 rfl ?_
     refine wu 8 rfl ?_
     refine wy 9 rfl fun K hK => ?_
     go_simp
     refine (HP1.out).mono ?_
     rintro e w1 ⟨rfl, κ2, hc1, ht1⟩
     have HS1 : Hid (SumS κ w k A w.heap.size (w.heap.size + 1) (certCells c ca cn ccap N1 N2 N3 N4) N1 N2 N3 N4 c.old ca cn ccap c.recs ⟨num, ⟨ms, ra, rc, sa, sc, (some ⟨b, off, none⟩), wk⟩, out⟩ κ2 w1 (vDone c.old l1 x num) l2 c.read c.spans bad) := (HS.out.drew).step1 hc1 ht1 HSRT.out
     clear hc1 ht1
     go_wp2_with fail
     refine hK.out _ _ ?_ (fun hHeld1 => ?_)
     · first | exact HKEEP.out _ HS.out.cert HS.out.rcd | exact HKEEP.out _ HS1.out.cert HS1.out.rcd | exact HKEEP.out _ HS2.out.cert HS2.out.rcd
     clear hK K hHeld0
     try simp only [Act.put, List.setIfInBounds_toArray, List.set]
     refine wy 10 rfl fun K hK => ?_
     go_simp
     refine (note_any f (ec bad) (w.heap.size + 1) w1 HS1.out.e).mono ?_
     rintro e w2 ⟨rfl, hg2, he2⟩
     rw [HF.out, ec_or] at he2
     have HS2 : Hid (SumS κ w k A w.heap.size (w.heap.size + 1) (certCells c ca cn ccap N1 N2 N3 N4) N1 N2 N3 N4 c.old ca cn ccap c.recs ⟨num, ⟨ms, ra, rc, sa, sc, (some ⟨b, off, none⟩), wk⟩, out⟩ κ2 w2 (vDone c.old l1 x num) l2 c.read c.spans (bad || vFull c.old l1 x)) := HS1.out.note hg2 he2
     clear hg2 he2
     go_wp2_with fail
     refine hK.out _ _ ?_ (fun hHeld2 => ?_)
     · first | exact HKEEP.out _ HS.out.cert HS.out.rcd | exact HKEEP.out _ HS1.out.cert HS1.out.rcd | exact HKEEP.out _ HS2.out.cert HS2.out.rcd
     clear hK K hHeld1
     try simp only [Act.put, List.setIfInBounds_toArray, List.set]
     refine wpAnyH_done (by kernel_rfl) ?_ _
     refine NoPanic.normal ?_
     go_wp2_with fail
     go_meet
     exact ⟨κ2, HS2⟩
    case rest =>
    obtain ⟨κ3, HS3⟩ := hcut
    obtain ⟨w3, hw3⟩ : ∃ w3, w3 = wc := ⟨_, rfl⟩
    rw [← hw3] at HS3 ⊢
    clear hw3 HS HSRT HP1 HF
    have x7 := (rec_block HS3.out.rcd).2.2.2.2.2.2.2
    simp only at x7
    cases out with
    | false =>
      have hq3 : F1 = (ms.writes.drop (kk + 1)).foldl (step1 c.old num false) (vDone c.old l1 x num, l2, bad || vFull c.old l1 x) := by have h := HQ2.out; simpa using h
      have HQ3 := Lib.hid hq3
      clear hq3
      go_wp2_with fail
      go_roundg (ms.writes.length - (kk + 1))
      case measure => omega
      case rel => exact ⟨kk + 1, κ3, _, _, _, by go_num, by omega, rfl, HQ3.out, HS3.out⟩
    | true =>
      have HSRT := Lib.hid (vDone_sorted (old := c.old) HS3.out.s2 HKX.out num)
      have hp1 := put_any κ3 (k + 2) N2 c.old l2 HS3.out.s2 x HKX.out num num1 num2 w3.drew HS3.out.drew.t2
      obtain ⟨f, hf⟩ : ∃ f, f = (if vFull c.old l2 x then (3 : Int) else 0) := ⟨_, rfl⟩
      unfold TPut at hp1
      rw [← hf] at hp1
      have HP1 := Lib.hid hp1
      have HF : Hid (f = ec (vFull c.old l2 x)) := hf
      clear hp1 hf
      have hq3 : F1 = (ms.writes.drop (kk + 1)).foldl (step1 c.old num true) (vDone c.old l1 x num, vDone c.old l2 x num, bad || vFull c.old l1 x || vFull c.old l2 x) := by have h := HQ2.out; simpa using h
      have HQ3 := Lib.hid hq3
      clear hq3
      go_upto_region 8 with fail
      clear x7
      refine wp_region_noPanic ?_
      refine wp_region_held_drew (S := (fun w' => w'.cell? ⟨A, 5, none⟩ = some (.pointer (some ⟨N1, 0, none⟩)) ∧ w'.cell? ⟨A, 6, none⟩ = some (.pointer (some ⟨N2, 0, none⟩)) ∧ w'.cell? ⟨A, 7, none⟩ = some (.pointer (some ⟨N3, 0, none⟩)) ∧ w'.cell? ⟨A, 8, none⟩ = some (.pointer (some ⟨N4, 0, none⟩)) ∧ w'.cell? ⟨w.heap.size, 0, none⟩ = some (.int .i64 num))) (by kernel_rfl) ?_ (fun hHeld0 => ?_)
      · first | exact HKEEP.out _ HS3.out.cert HS3.out.rcd | exact HKEEP.out _ HS1.out.cert HS1.out.rcd | exact HKEEP.out _ HS2.out.cert HS2.out.rcd
      refine wu 0 rfl ?_
      refine wu 1 rfl ?_
      refine wu 2 rfl ?_
      refine wu 3 rfl ?_
      refine wu 4 rfl ?_
      refine wu 5 rfl ?_
      refine wu 6 rfl ?_
      refine wu 7 rfl ?_
      refine wu 8 rfl ?_
      refine wy 9 rfl fun K hK => ?_
      go_simp
      refine (HP1.out).mono ?_
      rintro e w1 ⟨rfl, κ2, hc1, ht1⟩
      have HS1 : Hid (SumS κ w k A w.heap.size (w.heap.size + 1) (certCells c ca cn ccap N1 N2 N3 N4) N1 N2 N3 N4 c.old ca cn ccap c.recs ⟨num, ⟨ms, ra, rc, sa, sc, (some ⟨b, off, none⟩), wk⟩, true⟩ κ2 w1 (vDone c.old l1 x num) (vDone c.old l2 x num) c.read c.spans (bad || vFull c.old l1 x)) := (HS3.out.drew).step2 hc1 ht1 HSRT.out
      clear hc1 ht1
      go_wp2_with fail
      refine hK.out _ _ ?_ (fun hHeld1 => ?_)
      · first | exact HKEEP.out _ HS3.out.cert HS3.out.rcd | exact HKEEP.out _ HS1.out.cert HS1.out.rcd | exact HKEEP.out _ HS2.out.cert HS2.out.rcd
      clear hK K hHeld0
      try simp only [Act.put, List.setIfInBounds_toArray, List.set]
      refine wy 10 rfl fun K hK => ?_
      go_simp
      refine (note_any f (ec (bad || vFull c.old l1 x)) (w.heap.size + 1) w1 HS1.out.e).mono ?_
      rintro e w2 ⟨rfl, hg2, he2⟩
      rw [HF.out, ec_or] at he2
      have HS2 : Hid (SumS κ w k A w.heap.size (w.heap.size + 1) (certCells c ca cn ccap N1 N2 N3 N4) N1 N2 N3 N4 c.old ca cn ccap c.recs ⟨num, ⟨ms, ra, rc, sa, sc, (some ⟨b, off, none⟩), wk⟩, true⟩ κ2 w2 (vDone c.old l1 x num) (vDone c.old l2 x num) c.read c.spans (bad || vFull c.old l1 x || vFull c.old l2 x)) := HS1.out.note hg2 he2
      clear hg2 he2
      go_wp2_with fail
      refine hK.out _ _ ?_ (fun hHeld2 => ?_)
      · first | exact HKEEP.out _ HS3.out.cert HS3.out.rcd | exact HKEEP.out _ HS1.out.cert HS1.out.rcd | exact HKEEP.out _ HS2.out.cert HS2.out.rcd
      clear hK K hHeld1
      try simp only [Act.put, List.setIfInBounds_toArray, List.set]
      refine wpAnyH_done (by kernel_rfl) ?_ _
      refine NoPanic.normal ?_
      go_wp2_with fail
      go_roundg (ms.writes.length - (kk + 1))
      case measure => omega
      case rel => exact ⟨kk + 1, κ2, _, _, _, by go_num, by omega, rfl, HQ3.out, HS2.out⟩
  · obtain rfl : kk = ms.writes.length := by omega
    have hq := HQ.out
    rw [List.drop_of_length_le (Nat.le_refl _)] at hq
    have HF1e : Hid (F1 = (l1, l2, bad)) := hq
    have HF2e : Hid (F2 = ms.reads.foldl (step2 c.old num) (c.read, bad)) := by have := HF2.out; rw [hq] at this; exact this
    clear hq
    obtain ⟨z1, hz1⟩ : ∃ z1, z1 = wr := ⟨_, rfl⟩
    rw [← hz1] at HS ⊢
    clear hz1
    have x4 := (rec_block HS.out.rcd).2.2.2.2.1
    simp only at x4
    go_wp2_with fail
    clear x4
    go_loopg [54] ms.reads.length (fun g s54 wx => ∃ (k2 : Nat) (κ2 : Nat → Nat) (l3 : List VI) (bad2 : Bool), s54 = .int .i64 k2 ∧ k2 ≤ ms.reads.length ∧ g = ms.reads.length - k2 ∧ Hid (F2 = (ms.reads.drop k2).foldl (step2 c.old num) (l3, bad2)) ∧ Hid (SumS κ w k A w.heap.size (w.heap.size + 1) (certCells c ca cn ccap N1 N2 N3 N4) N1 N2 N3 N4 c.old ca cn ccap c.recs ⟨num, ⟨ms, ra, rc, sa, sc, wa, wk⟩, out⟩ κ2 wx l1 l2 l3 c.spans bad2))
    case atStart => exact ⟨0, κ1, c.read, bad, rfl, Nat.zero_le _, rfl, HF2e.out, HS.out⟩
    case round =>
     obtain ⟨k2, κ3, l3, bad2, rfl, hk2, rfl, HQ5, HS5⟩ := hrel
     have hk20 : (0 : Int) ≤ (k2 : Int) := by omega
     have hnat2 : ((k2 : Int)).toNat = k2 := by omega
     by_cases hlt2 : k2 < ms.reads.length
     · obtain ⟨x, hx⟩ : ∃ x, ms.reads[k2]? = some x := ⟨_, List.getElem?_eq_getElem hlt2⟩
       have hkx : KeyOk x := HRD.out x (List.mem_of_getElem? hx)
       have hww : RowN wr ra 1 ms.reads.length (cellsF ms.reads) := HS5.out.parts.ok.reads
       obtain ⟨b, off, rfl, e0⟩ := float_at hww k2 hlt2 x hx
       have hkn2 : (k2 : Int) < (ms.reads.length : Int) := by omega
       have hq := HQ5.out
       rw [drop_at hx] at hq
       have HQ6 : Hid (F2 = (ms.reads.drop (k2 + 1)).foldl (step2 c.old num) (vDone c.old l3 x num, bad2 || vFull c.old l3 x)) := hq
       have HSRT := Lib.hid (vDone_sorted (old := c.old) HS5.out.s3 hkx num)
       have hp1 := put_any κ3 (k + 3) N3 c.old l3 HS5.out.s3 x hkx num num1 num2 wr.drew HS5.out.drew.t3
       obtain ⟨f, hf⟩ : ∃ f, f = (if vFull c.old l3 x then (3 : Int) else 0) := ⟨_, rfl⟩
       unfold TPut at hp1
       rw [← hf] at hp1
       have HP1 := Lib.hid hp1
       have HF : Hid (f = ec (vFull c.old l3 x)) := hf
       clear hx hq hp1 hf hww hkx
       go_upto_region 13 with fail
       clear e0
       refine wp_region_noPanic ?_
       refine wp_region_held_drew (S := (fun w' => w'.cell? ⟨A, 5, none⟩ = some (.pointer (some ⟨N1, 0, none⟩)) ∧ w'.cell? ⟨A, 6, none⟩ = some (.pointer (some ⟨N2, 0, none⟩)) ∧ w'.cell? ⟨A, 7, none⟩ = some (.pointer (some ⟨N3, 0, none⟩)) ∧ w'.cell? ⟨A, 8, none⟩ = some (.pointer (some ⟨N4, 0, none⟩)) ∧ w'.cell? ⟨w.heap.size, 0, none⟩ = some (.int .i64 num))) (by kernel_rfl) ?_ (fun hHeld0 => ?_)
       · first | exact HKEEP.out _ HS5.out.cert HS5.out.rcd | exact HKEEP.out _ HS1.out.cert HS1.out.rcd | exact HKEEP.out _ HS2.out.cert HS2.out.rcd
       refine wu 0 rfl ?_
       refine wu 1 rfl ?_
       refine wu 2 rfl ?_
       refine wu 3 rfl ?_
       refine wu 4 rfl ?_
       refine wu 5 rfl ?_
       refine wu 6 rfl ?_
       refine wu 7 rfl ?_
       refine wu 8 rfl ?_
       refine wy 9 rfl fun K hK => ?_
       go_simp
       refine (HP1.out).mono ?_
       rintro e w1 ⟨rfl, κ2, hc1, ht1⟩
       have HS1 : Hid (SumS κ w k A w.heap.size (w.heap.size + 1) (certCells c ca cn ccap N1 N2 N3 N4) N1 N2 N3 N4 c.old ca cn ccap c.recs ⟨num, ⟨ms, (some ⟨b, off, none⟩), rc, sa, sc, wa, wk⟩, out⟩ κ2 w1 l1 l2 (vDone c.old l3 x num) c.spans bad2) := (HS5.out.drew).step3 hc1 ht1 HSRT.out
       clear hc1 ht1
       go_wp2_with fail
       refine hK.out _ _ ?_ (fun hHeld1 => ?_)
       · first | exact HKEEP.out _ HS5.out.cert HS5.out.rcd | exact HKEEP.out _ HS1.out.cert HS1.out.rcd | exact HKEEP.out _ HS2.out.cert HS2.out.rcd
       clear hK K hHeld0
       try simp only [Act.put, List.setIfInBounds_toArray, List.set]
       refine wy 10 rfl fun K hK => ?_
       go_simp
       refine (note_any f (ec bad2) (w.heap.size + 1) w1 HS1.out.e).mono ?_
       rintro e w2 ⟨rfl, hg2, he2⟩
       rw [HF.out, ec_or] at he2
       have HS2 : Hid (SumS κ w k A w.heap.size (w.heap.size + 1) (certCells c ca cn ccap N1 N2 N3 N4) N1 N2 N3 N4 c.old ca cn ccap c.recs ⟨num, ⟨ms, (some ⟨b, off, none⟩), rc, sa, sc, wa, wk⟩, out⟩ κ2 w2 l1 l2 (vDone c.old l3 x num) c.spans (bad2 || vFull c.old l3 x)) := HS1.out.note hg2 he2
       clear hg2 he2
       go_wp2_with fail
       refine hK.out _ _ ?_ (fun hHeld2 => ?_)
       · first | exact HKEEP.out _ HS5.out.cert HS5.out.rcd | exact HKEEP.out _ HS1.out.cert HS1.out.rcd | exact HKEEP.out _ HS2.out.cert HS2.out.rcd
       clear hK K hHeld1
       try simp only [Act.put, List.setIfInBounds_toArray, List.set]
       refine wpAnyH_done (by kernel_rfl) ?_ _
       refine NoPanic.normal ?_
       go_wp2_with fail
       go_roundg (ms.reads.length - (k2 + 1))
       case measure => omega
       case rel => exact ⟨k2 + 1, κ2, _, _, by go_num, by omega, rfl, HQ6.out, HS2.out⟩
     · obtain rfl : k2 = ms.reads.length := by omega
       have hq := HQ5.out
       rw [List.drop_of_length_le (Nat.le_refl _)] at hq
       have HF2f : Hid (F2 = (l3, bad2)) := hq
       have HF3e : Hid (F3 = ms.spans.foldl (step3 c.old num) (c.spans, bad2)) := by have := HF3.out; rw [hq] at this; exact this
       clear hq
       obtain ⟨z2, hz2⟩ : ∃ z2, z2 = wr := ⟨_, rfl⟩
       rw [← hz2] at HS5 ⊢
       clear hz2
       have x5 := (rec_block HS5.out.rcd).2.2.2.2.2.1
       simp only at x5
       go_wp2_with fail
       clear x5
       go_loopg [75] ms.spans.length (fun g s75 wx => ∃ (k3 : Nat) (κ2 : Nat → Nat) (p : List PI) (bad3 : Bool), s75 = .int .i64 k3 ∧ k3 ≤ ms.spans.length ∧ g = ms.spans.length - k3 ∧ Hid (F3 = (ms.spans.drop k3).foldl (step3 c.old num) (p, bad3)) ∧ Hid (SumS κ w k A w.heap.size (w.heap.size + 1) (certCells c ca cn ccap N1 N2 N3 N4) N1 N2 N3 N4 c.old ca cn ccap c.recs ⟨num, ⟨ms, ra, rc, sa, sc, wa, wk⟩, out⟩ κ2 wx l1 l2 l3 p bad3))
       case atStart => exact ⟨0, κ3, c.spans, bad2, rfl, Nat.zero_le _, rfl, HF3e.out, HS5.out⟩
       case round =>
        obtain ⟨k3, κ4, p, bad3, rfl, hk3, rfl, HQ7, HS7⟩ := hrel
        have hk30 : (0 : Int) ≤ (k3 : Int) := by omega
        have hnat3 : ((k3 : Int)).toNat = k3 := by omega
        by_cases hlt3 : k3 < ms.spans.length
        · obtain ⟨x, hx⟩ : ∃ x, ms.spans[k3]? = some x := ⟨_, List.getElem?_eq_getElem hlt3⟩
          have hgx := HSP.out x (List.mem_of_getElem? hx)
          have hww : RowN wr sa 4 ms.spans.length (ms.spans.flatMap Spn.cells) := HS7.out.parts.ok.spans
          obtain ⟨b, off, rfl, e0, e1, e2, e3⟩ := span_at hww rfl k3 hlt3 x hx
          have hkn3 : (k3 : Int) < (ms.spans.length : Int) := by omega
          have hq := HQ7.out
          rw [drop_at hx] at hq
          have HQ8 : Hid (F3 = (ms.spans.drop (k3 + 1)).foldl (step3 c.old num) (pDone c.old p x num, bad3 || pFull c.old p x)) := hq
          have HSRT := Lib.hid (pDone_sorted (old := c.old) HS7.out.s4 hgx num)
          obtain ⟨X, hX⟩ : ∃ X, X = wr.alloc (.cells #[.float .f64 x.lo, .float .f64 x.hi, .bool x.lop, .bool x.hop] 101) := ⟨_, rfl⟩
          have hbX : Below wr.heap.size wr X := hX ▸ below_alloc (Below.refl _ _) _
          have hXB : X.heap[wr.heap.size]? = some (.cells #[.float .f64 x.lo, .float .f64 x.hi, .bool x.lop, .bool x.hop] 101 (0, 0)) := hX ▸ heap_alloc_new wr _
          have HSX := Lib.hid (HS7.out.chg0 (chg_tint (i := k + 9) hbX))
          have hcol : tint wr κ4 (k + 9) wr.heap.size = k + 9 := tint_new (Nat.le_refl _)
          obtain ⟨κ5, hκ5⟩ : ∃ κ5, κ5 = tint wr κ4 (k + 9) := ⟨_, rfl⟩
          rw [← hκ5] at HSX hcol
          have hneE : wr.heap.size ≠ w.heap.size + 1 := by have := lt_of_block HS7.out.e; omega
          have hp1 := pput_any κ5 (k + 4) N4 c.old p HSX.out.s4 x hgx num num1 num2 X.drew HSX.out.drew.t4
          obtain ⟨f, hf⟩ : ∃ f, f = (if pFull c.old p x then (3 : Int) else 0) := ⟨_, rfl⟩
          unfold TPPut Spn.agg at hp1
          rw [← hf] at hp1
          have HP1 := Lib.hid hp1
          have HF : Hid (f = ec (pFull c.old p x)) := hf
          have HX := Lib.hid hX
          have HXW := Lib.hid hXB
          have HCOL := Lib.hid hcol
          have HNE := Lib.hid hneE
          have hkeep2 : ∀ Z : World, Z.heap[A]? = some (.cells (certCells c ca cn ccap N1 N2 N3 N4) 70 (0, 0)) → Z.heap[w.heap.size]? = some (.cells (RecV.mk num (SubM.mk ms ra rc (some ⟨b, off, none⟩) sc wa wk) out).cells.toArray 77 (0, 0)) → Z.heap[wr.heap.size]? = some (.cells #[.float .f64 x.lo, .float .f64 x.hi, .bool x.lop, .bool x.hop] 101 (0, 0)) → (fun w' : World => w'.cell? ⟨A, 5, none⟩ = some (.pointer (some ⟨N1, 0, none⟩)) ∧ w'.cell? ⟨A, 6, none⟩ = some (.pointer (some ⟨N2, 0, none⟩)) ∧ w'.cell? ⟨A, 7, none⟩ = some (.pointer (some ⟨N3, 0, none⟩)) ∧ w'.cell? ⟨A, 8, none⟩ = some (.pointer (some ⟨N4, 0, none⟩)) ∧ w'.cell? ⟨w.heap.size, 0, none⟩ = some (.int .i64 num) ∧ w'.cell? ⟨wr.heap.size, 0, none⟩ = some (.float .f64 x.lo) ∧ w'.cell? ⟨wr.heap.size, 1, none⟩ = some (.float .f64 x.hi) ∧ w'.cell? ⟨wr.heap.size, 2, none⟩ = some (.bool x.lop) ∧ w'.cell? ⟨wr.heap.size, 3, none⟩ = some (.bool x.hop)) Z := fun Z hA hB hX => by
           obtain ⟨q5, q6, q7, q8, q0⟩ := HKEEP.out Z hA hB
           obtain ⟨⟨d0, d1, d2, d3⟩, _⟩ := four_cells hX
           exact ⟨q5, q6, q7, q8, q0, d0, d1, d2, d3⟩
          have HK1 := HKEEP
          clear HKEEP
          have HKEEP := Lib.hid hkeep2
          clear hx hq hp1 hf hww hgx hX hbX hXB hκ5 hcol hneE hkeep2
          go_upto_region 18 with fail
          rw [← HX.out]
          clear e0 e1 e2 e3
          refine wp_region_noPanic ?_
          refine wp_region_held_drew (S := (fun w' => w'.cell? ⟨A, 5, none⟩ = some (.pointer (some ⟨N1, 0, none⟩)) ∧ w'.cell? ⟨A, 6, none⟩ = some (.pointer (some ⟨N2, 0, none⟩)) ∧ w'.cell? ⟨A, 7, none⟩ = some (.pointer (some ⟨N3, 0, none⟩)) ∧ w'.cell? ⟨A, 8, none⟩ = some (.pointer (some ⟨N4, 0, none⟩)) ∧ w'.cell? ⟨w.heap.size, 0, none⟩ = some (.int .i64 num) ∧ w'.cell? ⟨wr.heap.size, 0, none⟩ = some (.float .f64 x.lo) ∧ w'.cell? ⟨wr.heap.size, 1, none⟩ = some (.float .f64 x.hi) ∧ w'.cell? ⟨wr.heap.size, 2, none⟩ = some (.bool x.lop) ∧ w'.cell? ⟨wr.heap.size, 3, none⟩ = some (.bool x.hop))) (by kernel_rfl) ?_ (fun hHeld0 => ?_)
          · first | exact HKEEP.out _ HSX.out.cert HSX.out.rcd HXW.out | exact HKEEP.out _ HS1.out.cert HS1.out.rcd HX1.out | exact HKEEP.out _ HS2.out.cert HS2.out.rcd HX2.out
          refine wu 0 rfl ?_
          refine wu 1 rfl ?_
          refine wu 2 rfl ?_
          refine wu 3 rfl ?_
          refine wu 4 rfl ?_
          refine wu 5 rfl ?_
          refine wu 6 rfl ?_
          refine wu 7 rfl ?_
          refine wu 8 rfl ?_
          refine wy 9 rfl fun K hK => ?_
          go_simp
          refine (HP1.out).mono ?_
          rintro e w1 ⟨rfl, κ2, hc1, ht1⟩
          have HS1 : Hid (SumS κ w k A w.heap.size (w.heap.size + 1) (certCells c ca cn ccap N1 N2 N3 N4) N1 N2 N3 N4 c.old ca cn ccap c.recs ⟨num, ⟨ms, ra, rc, (some ⟨b, off, none⟩), sc, wa, wk⟩, out⟩ κ2 w1 l1 l2 l3 (pDone c.old p x num) bad3) := (HSX.out.drew).step4 hc1 ht1 HSRT.out
          have HX1 : Hid (w1.heap[wr.heap.size]? = _) := (hc1.block _ (lt_of_block HXW.out) (by rw [HCOL.out]; omega)).trans HXW.out
          clear hc1 ht1
          go_wp2_with fail
          refine hK.out _ _ ?_ (fun hHeld1 => ?_)
          · first | exact HKEEP.out _ HSX.out.cert HSX.out.rcd HXW.out | exact HKEEP.out _ HS1.out.cert HS1.out.rcd HX1.out | exact HKEEP.out _ HS2.out.cert HS2.out.rcd HX2.out
          clear hK K hHeld0
          try simp only [Act.put, List.setIfInBounds_toArray, List.set]
          refine wy 10 rfl fun K hK => ?_
          go_simp
          refine (note_any f (ec bad3) (w.heap.size + 1) w1 HS1.out.e).mono ?_
          rintro e w2 ⟨rfl, hg2, he2⟩
          rw [HF.out, ec_or] at he2
          have HS2 : Hid (SumS κ w k A w.heap.size (w.heap.size + 1) (certCells c ca cn ccap N1 N2 N3 N4) N1 N2 N3 N4 c.old ca cn ccap c.recs ⟨num, ⟨ms, ra, rc, (some ⟨b, off, none⟩), sc, wa, wk⟩, out⟩ κ2 w2 l1 l2 l3 (pDone c.old p x num) (bad3 || pFull c.old p x)) := HS1.out.note hg2 he2
          have HX2 : Hid (w2.heap[wr.heap.size]? = _) := (hg2.block _ (lt_of_block HX1.out) (fun e => HNE.out (Option.some.inj e))).trans HX1.out
          clear hg2 he2
          go_wp2_with fail
          refine hK.out _ _ ?_ (fun hHeld2 => ?_)
          · first | exact HKEEP.out _ HSX.out.cert HSX.out.rcd HXW.out | exact HKEEP.out _ HS1.out.cert HS1.out.rcd HX1.out | exact HKEEP.out _ HS2.out.cert HS2.out.rcd HX2.out
          clear hK K hHeld1
          try simp only [Act.put, List.setIfInBounds_toArray, List.set]
          refine wpAnyH_done (by kernel_rfl) ?_ _
          refine NoPanic.normal ?_
          go_wp2_with fail
          go_roundg (ms.spans.length - (k3 + 1))
          case measure => omega
          case rel => exact ⟨k3 + 1, κ2, _, _, by go_num, by omega, rfl, HQ8.out, HS2.out⟩
        · obtain rfl : k3 = ms.spans.length := by omega
          have hq := HQ7.out
          rw [List.drop_of_length_le (Nat.le_refl _)] at hq
          have HF3f : Hid (F3 = (p, bad3)) := hq
          clear hq
          obtain ⟨z3, hz3⟩ : ∃ z3, z3 = wr := ⟨_, rfl⟩
          rw [← hz3] at HS7 ⊢
          clear hz3
          cases bad3 with
          | false =>
            have HSM2 : Hid (SM = { c with wrote := l1, wroteOut := l2, read := l3, spans := p }) := by
             have h := HSM.out
             rw [HF3f.out, HF2f.out, HF1e.out] at h
             exact h
            have x0 : z3.cell? ⟨w.heap.size + 1, 0, none⟩ = some (.int .i64 0) := by have h := HS7.out.e; simp [World.cell?, h, ec]
            go_wp2_with fail
            go_end0
            rw [HSM2.out]
            exact HS7.out.done
          | true =>
            have HSM2 : Hid (SM = { c with wrote := [], wroteOut := [], read := [], spans := [], horizon := num }) := by
             have h := HSM.out
             rw [HF3f.out] at h
             exact h
            have x0 : z3.cell? ⟨w.heap.size + 1, 0, none⟩ = some (.int .i64 3) := by have h := HS7.out.e; simp [World.cell?, h, ec]
            go_upto_region 21 with fail
            clear x0
            refine wp_region_noPanic ?_
            refine wp_region_held_drew (S := (fun w' => w'.cell? ⟨A, 5, none⟩ = some (.pointer (some ⟨N1, 0, none⟩)) ∧ w'.cell? ⟨A, 6, none⟩ = some (.pointer (some ⟨N2, 0, none⟩)) ∧ w'.cell? ⟨A, 7, none⟩ = some (.pointer (some ⟨N3, 0, none⟩)) ∧ w'.cell? ⟨A, 8, none⟩ = some (.pointer (some ⟨N4, 0, none⟩)) ∧ w'.cell? ⟨w.heap.size, 0, none⟩ = some (.int .i64 num))) (by kernel_rfl) ?_ (fun hHeld0 => ?_)
            · first | exact HKEEP.out _ HS7.out.cert HS7.out.rcd | exact HKEEP.out _ (alloc_keep (w := z3.drew) HS7.out.cert _) (alloc_keep (w := z3.drew) HS7.out.rcd _)
            refine wu 0 rfl ?_
            refine wu 1 rfl ?_
            refine wu 2 rfl ?_
            refine wu 3 rfl ?_
            refine wu 4 rfl ?_
            refine wu 5 rfl ?_
            refine wu 6 rfl ?_
            refine wu 7 rfl ?_
            refine wu 8 rfl ?_
            refine wu 9 rfl ?_
            refine wu 10 rfl ?_
            refine wu 11 rfl ?_
            refine wu 12 rfl ?_
            refine wu 13 rfl ?_
            refine wu 14 rfl ?_
            refine wu 15 rfl ?_
            refine wu 16 rfl ?_
            refine wu 17 rfl ?_
            refine wu 18 rfl ?_
            refine wu 19 rfl ?_
            refine wu 22 rfl ?_
            refine wy 20 rfl fun K hK => ?_
            go_simp
            refine hK.out _ _ ?_ (fun hHeld1 => ?_)
            · first | exact HKEEP.out _ HS7.out.cert HS7.out.rcd | exact HKEEP.out _ (alloc_keep (w := z3.drew) HS7.out.cert _) (alloc_keep (w := z3.drew) HS7.out.rcd _)
            clear hK K hHeld0
            try simp only [Act.put, List.setIfInBounds_toArray, List.set]
            refine wu 21 rfl ?_
            refine wpAnyH_done (by kernel_rfl) ?_ _
            refine NoPanic.normal ?_
            obtain ⟨Z, hZ⟩ : ∃ Z, Z = (z3.alloc (.cells #[.iface 64 (.pointer (some ⟨N1, 0, none⟩)), .iface 64 (.pointer (some ⟨N2, 0, none⟩)), .iface 64 (.pointer (some ⟨N3, 0, none⟩)), .iface 66 (.pointer (some ⟨N4, 0, none⟩))] 129)).drew := ⟨_, rfl⟩
            have hbZ : Below z3.heap.size z3 Z := hZ ▸ (below_alloc (Below.refl _ _) _).drew
            have HIB : Hid (Z.heap[z3.heap.size]? = some (.cells #[.iface 64 (.pointer (some ⟨N1, 0, none⟩)), .iface 64 (.pointer (some ⟨N2, 0, none⟩)), .iface 64 (.pointer (some ⟨N3, 0, none⟩)), .iface 66 (.pointer (some ⟨N4, 0, none⟩))] 129)) := hZ ▸ heap_alloc_new z3 _
            have HSZ := Lib.hid (HS7.out.chg0 (chg_tint (i := k + 9) hbZ))
            have HCI : Hid (tint z3 κ4 (k + 9) z3.heap.size = k + 9) := tint_new (Nat.le_refl _)
            obtain ⟨I, hI⟩ : ∃ I, I = z3.heap.size := ⟨_, rfl⟩
            have HI := Lib.hid hI
            rw [← hI] at HIB HCI
            clear hbZ hI
            go_wp2_with fail
            rw [← hZ, ← HI.out]
            clear hZ HI
            go_loopg [115] 4 (fun g s115 wx => ∃ (kk : Nat) (κ2 : Nat → Nat) (a1 a2 a3 : List VI) (ap : List PI), s115 = .int .i64 kk ∧ kk ≤ 4 ∧ g = 4 - kk ∧ Hid (κ2 I = k + 9) ∧ Hid (wx.heap[I]? = some (.cells #[.iface 64 (.pointer (some ⟨N1, 0, none⟩)), .iface 64 (.pointer (some ⟨N2, 0, none⟩)), .iface 64 (.pointer (some ⟨N3, 0, none⟩)), .iface 66 (.pointer (some ⟨N4, 0, none⟩))] 129)) ∧ Hid ((1 ≤ kk → a1 = []) ∧ (2 ≤ kk → a2 = []) ∧ (3 ≤ kk → a3 = []) ∧ (4 ≤ kk → ap = [])) ∧ Hid (SumS κ w k A w.heap.size (w.heap.size + 1) (certCells c ca cn ccap N1 N2 N3 N4) N1 N2 N3 N4 c.old ca cn ccap c.recs ⟨num, ⟨ms, ra, rc, sa, sc, wa, wk⟩, out⟩ κ2 wx a1 a2 a3 ap true))
            case atStart => exact ⟨0, _, l1, l2, l3, p, rfl, by omega, rfl, HCI, HIB, ⟨fun h => by omega, fun h => by omega, fun h => by omega, fun h => by omega⟩, HSZ⟩
            case round =>
             obtain ⟨kk, κ6, a1, a2, a3, ap, rfl, hkk, rfl, HC, HB, HE, HW⟩ := hrel
             obtain ⟨i0, i1, i2, i3⟩ := (four_cells HB.out).1
             have hz0 : ([] : List VI) = [] := rfl
             rcases (show kk = 0 ∨ kk = 1 ∨ kk = 2 ∨ kk = 3 ∨ kk = 4 by omega) with rfl | rfl | rfl | rfl | rfl
             · have hcl := clear_any κ6 (k + 1) N1 c.old a1 wr HW.out.t1
               have HCL := Lib.hid hcl
               clear hcl
               go_wp2_with fail
               refine HCL.out.mono ?_
               rintro e w1 ⟨rfl, κ7, hc1, ht1⟩
               have HW1 := Lib.hid (HW.out.step1 hc1 ht1 ⟨.nil, fun _ h => absurd h List.not_mem_nil⟩)
               have HC1 : Hid (κ7 I = k + 9) := (hc1.paint I (lt_of_block HB.out)).trans HC.out
               have HB1 : Hid (w1.heap[I]? = _) := (hc1.block I (lt_of_block HB.out) (by rw [HC.out]; omega)).trans HB.out
               clear hc1 ht1 i0 i1 i2 i3
               go_wp2_with fail
               go_roundg 3
               case measure => omega
               case rel => exact ⟨1, κ7, [], a2, a3, ap, by go_num, by omega, by omega, HC1, HB1, ⟨fun _ => rfl, fun h => by omega, fun h => by omega, fun h => by omega⟩, HW1⟩
             · have hcl := clear_any κ6 (k + 2) N2 c.old a2 wr HW.out.t2
               have HCL := Lib.hid hcl
               clear hcl
               go_wp2_with fail
               refine HCL.out.mono ?_
               rintro e w1 ⟨rfl, κ7, hc1, ht1⟩
               have HW1 := Lib.hid (HW.out.step2 hc1 ht1 ⟨.nil, fun _ h => absurd h List.not_mem_nil⟩)
               have HC1 : Hid (κ7 I = k + 9) := (hc1.paint I (lt_of_block HB.out)).trans HC.out
               have HB1 : Hid (w1.heap[I]? = _) := (hc1.block I (lt_of_block HB.out) (by rw [HC.out]; omega)).trans HB.out
               clear hc1 ht1 i0 i1 i2 i3
               go_wp2_with fail
               go_roundg 2
               case measure => omega
               case rel => exact ⟨2, κ7, a1, [], a3, ap, by go_num, by omega, by omega, HC1, HB1, ⟨fun _ => HE.out.1 (by omega), fun _ => rfl, fun h => by omega, fun h => by omega⟩, HW1⟩
             · have hcl := clear_any κ6 (k + 3) N3 c.old a3 wr HW.out.t3
               have HCL := Lib.hid hcl
               clear hcl
               go_wp2_with fail
               refine HCL.out.mono ?_
               rintro e w1 ⟨rfl, κ7, hc1, ht1⟩
               have HW1 := Lib.hid (HW.out.step3 hc1 ht1 ⟨.nil, fun _ h => absurd h List.not_mem_nil⟩)
               have HC1 : Hid (κ7 I = k + 9) := (hc1.paint I (lt_of_block HB.out)).trans HC.out
               have HB1 : Hid (w1.heap[I]? = _) := (hc1.block I (lt_of_block HB.out) (by rw [HC.out]; omega)).trans HB.out
               clear hc1 ht1 i0 i1 i2 i3
               go_wp2_with fail
               go_roundg 1
               case measure => omega
               case rel => exact ⟨3, κ7, a1, a2, [], ap, by go_num, by omega, by omega, HC1, HB1, ⟨fun _ => HE.out.1 (by omega), fun _ => HE.out.2.1 (by omega), fun _ => rfl, fun h => by omega⟩, HW1⟩
             · have hcl := ptClear_any κ6 (k + 4) N4 c.old ap wr HW.out.t4
               have HCL := Lib.hid hcl
               clear hcl
               go_wp2_with fail
               refine HCL.out.mono ?_
               rintro e w1 ⟨rfl, κ7, hc1, ht1⟩
               have HW1 := Lib.hid (HW.out.step4 hc1 ht1 ⟨.nil, fun _ h => absurd h List.not_mem_nil⟩)
               have HC1 : Hid (κ7 I = k + 9) := (hc1.paint I (lt_of_block HB.out)).trans HC.out
               have HB1 : Hid (w1.heap[I]? = _) := (hc1.block I (lt_of_block HB.out) (by rw [HC.out]; omega)).trans HB.out
               clear hc1 ht1 i0 i1 i2 i3
               go_wp2_with fail
               go_roundg 0
               case measure => omega
               case rel => exact ⟨4, κ7, a1, a2, a3, [], by go_num, by omega, by omega, HC1, HB1, ⟨fun _ => HE.out.1 (by omega), fun _ => HE.out.2.1 (by omega), fun _ => HE.out.2.2.1 (by omega), fun _ => rfl⟩, HW1⟩
             · skip
               obtain ⟨E1, E2, E3, E4⟩ := HE.out
               have e1 := E1 (by omega)
               have e2 := E2 (by omega)
               have e3 := E3 (by omega)
               have e4 := E4 (by omega)
               subst e1 e2 e3 e4
               have x0 := (rec_block HW.out.rcd).1
               simp only at x0
               obtain ⟨_, _, _, q3, _⟩ := nine_cells (show wr.heap[A]? = some (.cells #[_, _, _, _, _, _, _, _, _] _ _) from HW.out.cert)
               have f3 : wr.frozen? ⟨A, 3, none⟩ = false := by have h := HW.out.cert; simp [World.frozen?, h]
               clear i0 i1 i2 i3
               go_wp2_with fail
               go_end0
               rw [HSM2.out]
               exact HW.out.done2 num
end Go.Proofs.YtpknmfmpiachkaaGreat
