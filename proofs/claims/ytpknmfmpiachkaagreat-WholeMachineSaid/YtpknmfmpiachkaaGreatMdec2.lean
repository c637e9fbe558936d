/- sub.Decode of a right submission's bytes. -/
import Derived.Test.YtpknmfmpiachkaaGreatMdec1
import Derived.Test.YtpknmfmpiachkaaGreatCert11
import Derived.Deep.LoopGhost
namespace Go.Proofs.YtpknmfmpiachkaaGreat
open Go.RowKit
def spansB (ss : List Spn) : List UInt8 := ss.flatMap fun x => keyBytes (Flo.code x.lo) ++ keyBytes (Flo.code x.hi)
theorem spansB_at {ss : List Spn} {k : Nat} {x : Spn} (h : ss[k]? = some x) : spansB (ss.drop k) = keyBytes (Flo.code x.lo) ++ (keyBytes (Flo.code x.hi) ++ spansB (ss.drop (k + 1))) := by
 rw [drop_at h]
 unfold spansB
 rw [List.flatMap_cons, List.append_assoc]
theorem keyV_bytes (x : Nat) : (keyV x).bytes = keyBytes (Flo.code x) := by simp [Vl.bytes, keyV]
theorem numV_bytes (x : Int) : (numV x).bytes = numBytes x := by simp [Vl.bytes, numV]
theorem keysV_bytes (l : List Nat) : (l.map keyV).flatMap Vl.bytes = keysB l := by
 unfold keysB
 induction l with
 | nil => rfl
 | cons x r ih => rw [List.map_cons, List.flatMap_cons, List.flatMap_cons, ih, keyV_bytes]
theorem spansV_bytes (l : List Spn) : (l.flatMap spanV).flatMap Vl.bytes = spansB l := by
 unfold spansB
 induction l with
 | nil => rfl
 | cons x r ih => rw [List.flatMap_cons, List.flatMap_append, List.flatMap_cons, ih]; simp [spanV, keyV_bytes]
theorem subBytes_eq (s : SubP) : subBytes s = numBytes s.session ++ (numBytes s.seq ++ (numBytes s.snap ++ (numBytes (s.reads.length : Nat) ++ (keysB s.reads ++ (numBytes (s.spans.length : Nat) ++ (spansB s.spans ++ (numBytes (s.writes.length : Nat) ++ (keysB s.writes ++ [])))))))) := by
 unfold subBytes subVals headV
 simp only [List.flatMap_append, List.flatMap_cons, List.flatMap_nil, List.append_nil, numV_bytes, keysV_bytes, spansV_bytes, List.append_assoc]
structure DecS (W0 w : World) (C R : Nat) (cs : Array Value) (bs : List UInt8) : Prop where
 cell : w.heap[C]? = some (.cells cs 26 (0, 0))
 pl : ∀ (o : Nat) n, cs[o]? ≠ some (.int .u8 n)
 rd : Rd w R bs
 touch : Touch [R, C] W0 w
 ne : C ≠ R
theorem DecS.call {W0 w w' : World} {C R : Nat} {cs : Array Value} {bs rest : List UInt8} (h : DecS W0 w C R cs bs) (hr : Rd w' R rest) (ht : Touch [R] w w') : DecS W0 w' C R cs rest :=
 ⟨(ht.block C (lt_of_block h.cell) (by simpa using h.ne)).trans h.cell, h.pl, hr, h.touch.trans (ht.mono fun k hk => by simp at hk; simp [hk]), h.ne⟩
theorem DecS.set {W0 w : World} {C R : Nat} {cs : Array Value} {bs : List UInt8} (h : DecS W0 w C R cs bs) (i : Nat) (v : Value) (hv : ∀ n, v ≠ .int .u8 n) : DecS W0 (w.setCell ⟨C, i, none⟩ v) C R (cs.setIfInBounds i v) bs := by
 refine ⟨set_block h.cell v, fun o n he => ?_, h.rd.touch (S := [C]) (Touch.set w C i v (by simp)) (by simpa using fun e => h.ne e.symm) (fun k hk o n hc => ?_), h.touch.trans (Touch.set w C i v (by simp)), h.ne⟩
 · rw [Array.getElem?_setIfInBounds] at he
   split at he
   · split at he
     · exact hv n (Option.some.inj he)
     · cases he
   · exact h.pl o n he
 · have hk' : k = C := by simpa using hk
   subst hk'
   simp only [World.cell?, h.cell] at hc
   exact h.pl o n hc
theorem DecS.below {W0 w w' : World} {C R : Nat} {cs : Array Value} {bs : List UInt8} (h : DecS W0 w C R cs bs) (hb : Below w.heap.size w w') : DecS W0 w' C R cs bs :=
 ⟨(hb.block C (lt_of_block h.cell)).trans h.cell, h.pl, h.rd.below hb, h.touch.trans (Touch.of_below hb), h.ne⟩
theorem DecS.grown {W0 w w' : World} {C R : Nat} {cs : Array Value} {bs : List UInt8} {row : Option Nat} (h : DecS W0 w C R cs bs) (hg : w.grownBy w' row) (hr : ∀ g, row = some g → C < g ∧ R < g ∧ W0.heap.size ≤ g) : DecS W0 w' C R cs bs :=
 ⟨(hg.block C (lt_of_block h.cell) fun e => by have := (hr C e.symm).1; omega).trans h.cell, h.pl, h.rd.grownOld hg fun g hg => (hr g hg).2.1, h.touch.grown hg fun g hg => (hr g hg).2.2, h.ne⟩
def DecFn (W0 : World) (C R : Nat) (s : SubP) (e : Ending) (w' : World) : Prop :=
 e = .returned (.tuple #[]) ∧ Rd w' R [] ∧ Touch [R, C] W0 w' ∧ ∃ m : SubM, m.s = s ∧ w'.heap[C]? = some (.cells #[.int .i64 m.s.session, .int .i64 m.s.seq, .int .i64 m.s.snap, .slice m.ra m.s.reads.length m.rc, .slice m.sa m.s.spans.length m.sc, .slice m.wa m.s.writes.length m.wc] 26 (0, 0)) ∧ m.ok w' ∧ (∀ b off, m.ra = some ⟨b, off, none⟩ → W0.heap.size ≤ b) ∧ (∀ b off, m.sa = some ⟨b, off, none⟩ → W0.heap.size ≤ b) ∧ (∀ b off, m.wa = some ⟨b, off, none⟩ → W0.heap.size ≤ b)
theorem row_base {w : World} {base : Nat} {e : TypeId} {size n cap : Nat} {ao : Option Addr} {xs : List Value} (h : w.ownsRow base e size (.slice ao n cap) n xs) : ∀ b off, ao = some ⟨b, off, none⟩ → base ≤ b ∧ b < w.heap.size := fun b off e => h.lt b (by rw [e]; rfl)
set_option maxRecDepth 100000 in
set_option maxHeartbeats 16000000 in
theorem decFn_any (C R : Nat) (s : SubP) (hs : s.Right) (hc : checkP s = 0) (W0 : World) (hCR : C < R) (hr : Rd W0 R (subBytes s)) (hC : W0.heap[C]? = some (.cells #[.int .i64 0, .int .i64 0, .int .i64 0, .slice none 0 0, .slice none 0 0, .slice none 0 0] 26 (0, 0))) :
 Calls Tryz.prog 78 #[.pointer (some ⟨R, 0, none⟩), .pointer (some ⟨C, 0, none⟩)] W0 (DecFn W0 C R s) := by
 obtain ⟨post, hpost⟩ : ∃ post, post = DecFn W0 C R s := ⟨_, rfl⟩
 rw [← hpost]
 rw [subBytes_eq] at hr
 obtain ⟨se, sq, sn, RS, SS, WS⟩ := s
 simp only at hr
 have hd0 : DecS W0 W0 C R #[.int .i64 0, .int .i64 0, .int .i64 0, .slice none 0 0, .slice none 0 0, .slice none 0 0] _ := ⟨hC, fun o n => by match o with
  | 0 => simp
  | 1 => simp
  | 2 => simp
  | 3 => simp
  | 4 => simp
  | 5 => simp
  | o + 6 => simp, hr, Touch.refl _ _, by omega⟩
 have h1 : -9223372036854775808 ≤ se ∧ se ≤ 9223372036854775807 := by have := hs.session; simp only at this; omega
 have h2 : -9223372036854775808 ≤ sq ∧ sq ≤ 9223372036854775807 := by have := hs.seq; simp only at this; omega
 have h3 : -9223372036854775808 ≤ sn ∧ sn ≤ 9223372036854775807 := by have := hs.snap; simp only at this; omega
 have hRl : R < W0.heap.size := hr.lt
 have HRL := Lib.hid hRl
 have HS := Lib.hid hs
 have HPOST := Lib.hid hpost
 have HCK := Lib.hid hc
 have HD0 := Lib.hid hd0
 have HN1 := Lib.hid (num_ok R se h1 _ W0 hd0.rd)
 clear hpost hr hC hd0 hRl hs hc
 go_enter Tryz.func78, Tryz.ntmps78
 go_wp2_with fail
 refine HN1.out.mono ?_
 rintro e w1 ⟨rfl, hrd, hg⟩
 have HD1 := Lib.hid (HD0.out.call hrd (Touch.of_grown hg (by simp)))
 have HN2 := Lib.hid (num_ok R sq h2 _ w1 hrd)
 clear hrd hg HN1 HD0
 go_wp2_with fail
 refine HN2.out.mono ?_
 rintro e w2 ⟨rfl, hrd, hg⟩
 have HD2 := Lib.hid (HD1.out.call hrd (Touch.of_grown hg (by simp)))
 have HN3 := Lib.hid (num_ok R sn h3 _ w2 hrd)
 clear hrd hg HN2 HD1
 go_wp2_with fail
 refine HN3.out.mono ?_
 rintro e w3 ⟨rfl, hrd, hg⟩
 have HD3 := Lib.hid (HD2.out.call hrd (Touch.of_grown hg (by simp)))
 clear hrd hg HN3 HD2
 obtain ⟨c0, c1, c2, c3, c4, c5⟩ := six_cells HD3.out.cell
 obtain ⟨f0, f1, f2, f3, f4, f5⟩ := six_frz HD3.out.cell
 obtain ⟨Y, hY⟩ : ∃ Y, Y = ((w3.setCell ⟨C, 0, none⟩ (.int .i64 se)).setCell ⟨C, 1, none⟩ (.int .i64 sq)).setCell ⟨C, 2, none⟩ (.int .i64 sn) := ⟨_, rfl⟩
 have hdY : DecS W0 Y C R #[.int .i64 se, .int .i64 sq, .int .i64 sn, .slice none 0 0, .slice none 0 0, .slice none 0 0] _ := hY ▸ ((HD3.out.set 0 (.int .i64 se) (fun _ h => by cases h)).set 1 (.int .i64 sq) (fun _ h => by cases h)).set 2 (.int .i64 sn) (fun _ h => by cases h)
 have HDY := Lib.hid hdY
 have HY := Lib.hid hY
 have HK1 := Lib.hid (keys_ok R 16 RS HS.out.reads ⟨by have := HS.out.lr; simp only at this; omega, by omega⟩ _ Y hdY.rd)
 clear hdY hY
 go_upto_region 1 with fail
 rw [← HY.out]
 clear HY c0 c1 c2 c3 c4 c5 f0 f1 f2 f3 f4 f5 HD3
 go_wp2_with fail
 refine HK1.out.mono ?_
 rintro e w4 ⟨ra, rc, rfl, hor, hrd, ht⟩
 have hyl := lt_of_block HDY.out.cell
 have HD4 := Lib.hid (HDY.out.call hrd ht)
 obtain ⟨_, _, _, c3, _, _⟩ := six_cells HD4.out.cell
 obtain ⟨_, _, _, f3, _, _⟩ := six_frz HD4.out.cell
 obtain ⟨Z, hZ⟩ : ∃ Z, Z = w4.setCell ⟨C, 3, none⟩ (.slice ra RS.length rc) := ⟨_, rfl⟩
 have HDZ : Hid (DecS W0 Z C R #[.int .i64 se, .int .i64 sq, .int .i64 sn, .slice ra RS.length rc, .slice none 0 0, .slice none 0 0] _) := hZ ▸ HD4.out.set 3 (.slice ra RS.length rc) (fun _ h => by cases h)
 have horZ : Z.ownsRow W0.heap.size 63 1 (.slice ra RS.length rc) RS.length (cellsF RS) := hZ ▸ own_more (own_keep hor fun g hgo hl => set_far rfl fun e => by have := (hor.lt g hgo).1; omega) HDY.out.touch.size
 have HORZ := Lib.hid horZ
 have HC4 := Lib.hid (count_ok R SS.length 8 (by omega) (by have := HS.out.ls; simp only at this; omega) _ Z HDZ.out.rd)
 have HZ := Lib.hid hZ
 clear hor hrd ht hZ horZ HK1 HDY hyl
 go_upto_region 2 with fail
 rw [← HZ.out]
 clear HZ c3 f3 HD4
 go_wp2_with fail
 refine HC4.out.mono ?_
 rintro e w5 ⟨rfl, hrd, hg⟩
 have HD5 := Lib.hid (HDZ.out.call hrd (Touch.of_grown hg (by simp)))
 have hor5 : w5.ownsRow W0.heap.size 63 1 (.slice ra RS.length rc) RS.length (cellsF RS) := own_keep HORZ.out fun g hgo hl => hg.block g hl fun e => by have := (HORZ.out.lt g hgo).1; have := Option.some.inj e; have := HRL.out; omega
 obtain ⟨B1, hB1⟩ : ∃ B1, B1 = w5.heap.size := ⟨_, rfl⟩
 have HOR5 : Hid (w5.ownsRow W0.heap.size 63 1 (.slice ra RS.length rc) RS.length (cellsF RS) ∧ ∀ g, (Value.slice ra RS.length rc).ownBlock = some g → g < B1) := ⟨hor5, fun g hg => hB1 ▸ (hor5.lt g hg).2⟩
 have HB1 : Hid (W0.heap.size ≤ B1 ∧ C < B1 ∧ R < B1) := by have := HD5.out.touch.size; have := HRL.out; exact ⟨by omega, by omega, by omega⟩
 have HB1L : Hid (B1 ≤ w5.heap.size) := Nat.le_of_eq hB1
 clear hrd hg hor5 hB1 HC4 HDZ HORZ
 obtain ⟨i0, hi, hz0, hz1, hz2⟩ := info_parts info_span
 have HI := Lib.hid (And.intro hi (And.intro hz0 (And.intro hz1 hz2)))
 clear hi hz0 hz1 hz2
 have HL8 : Hid (SS.length ≤ 8) := HS.out.ls
 go_wp2_with fail
 go_loopg [18] SS.length (fun g s18 wr => ∃ (k : Nat) (sa : Option Addr) (sc : Nat), s18 = .int .i64 k ∧ k ≤ SS.length ∧ g = SS.length - k ∧ Hid (DecS W0 wr C R #[.int .i64 se, .int .i64 sq, .int .i64 sn, .slice ra RS.length rc, .slice sa k sc, .slice none 0 0] (spansB (SS.drop k) ++ (numBytes (WS.length : Nat) ++ (keysB WS ++ [])))) ∧ Hid (wr.ownsRow B1 101 4 (.slice sa k sc) k ((SS.take k).flatMap Spn.cells)) ∧ Hid (wr.ownsRow W0.heap.size 63 1 (.slice ra RS.length rc) RS.length (cellsF RS) ∧ ∀ g, (Value.slice ra RS.length rc).ownBlock = some g → g < B1) ∧ Hid (B1 ≤ wr.heap.size))
 case atStart => exact ⟨0, none, 0, rfl, Nat.zero_le _, rfl, HD5.out, World.ownsRow_nil _ _ _ _, HOR5.out, HB1L.out⟩
 case round =>
  obtain ⟨k, sa, sc, rfl, hk, rfl, HD, HOS, HOR, HBL⟩ := hrel
  clear HD5 HOR5 HB1L
  have hk0 : (0 : Int) ≤ (k : Int) := by omega
  have hnat : ((k : Int)).toNat = k := by omega
  have hl8 : SS.length ≤ 8 := HL8.out
  by_cases hlt : k < SS.length
  · obtain ⟨⟨lo, hi, lop, hop⟩, hx⟩ : ∃ x, SS[k]? = some x := ⟨_, List.getElem?_eq_getElem hlt⟩
    have hgs : GoodS ⟨lo, hi, lop, hop⟩ := HS.out.spans _ (List.mem_of_getElem? hx)
    obtain rfl : lop = false := hgs.lop
    obtain rfl : hop = false := hgs.hop
    have hd := HD.out
    rw [spansB_at hx, List.append_assoc, List.append_assoc] at hd
    simp only at hd
    have HKL := Lib.hid (key_ok R lo hgs.ok.1 hgs.clo _ wr hd.rd)
    have HD' := Lib.hid hd
    have HHI : Hid (hi < 18446744073709551616 ∧ Flo.canon hi = hi) := ⟨hgs.ok.2, hgs.chi⟩
    have HTK : Hid ((SS.take (k + 1)).flatMap Spn.cells = (SS.take k).flatMap Spn.cells ++ Spn.cells ⟨lo, hi, false, false⟩) := by show _ = _; rw [take_snoc hx, List.flatMap_append, List.flatMap_cons, List.flatMap_nil, List.append_nil]
    have hkn : (k : Int) < (SS.length : Int) := by omega
    clear hd hgs hx HD
    go_wp2_with fail
    refine HKL.out.mono ?_
    rintro e w6 ⟨rfl, hrd, hg⟩
    have HD6 := Lib.hid (HD'.out.call hrd (Touch.of_grown hg (by simp)))
    have HOS6 : Hid (w6.ownsRow B1 101 4 (.slice sa k sc) k ((SS.take k).flatMap Spn.cells)) := own_keep HOS.out fun g hgo hl => hg.block g hl fun e => by have := (HOS.out.lt g hgo).1; have := Option.some.inj e; have := HB1.out; omega
    have HOR6 : Hid (w6.ownsRow W0.heap.size 63 1 (.slice ra RS.length rc) RS.length (cellsF RS) ∧ ∀ g, (Value.slice ra RS.length rc).ownBlock = some g → g < B1) := ⟨own_keep HOR.out.1 fun g hgo hl => hg.block g hl fun e => by have := (HOR.out.1.lt g hgo).1; have := Option.some.inj e; have := HRL.out; omega, HOR.out.2⟩
    have HBL6 : Hid (B1 ≤ w6.heap.size) := Nat.le_trans HBL.out hg.size
    have HDD := Lib.hid (HD6.out.below (Below.refl _ _).drew)
    have HKH := Lib.hid (key_ok R hi HHI.out.1 HHI.out.2 _ w6.drew HDD.out.rd)
    obtain ⟨_, _, _, _, c4, _⟩ := six_cells HD6.out.cell
    clear hrd hg HKL HD' HOS HOR HBL HHI
    go_upto_region 5 with fail
    refine wp_region_noPanic ?_
    refine wp_region_held_drew (S := (fun _ => True)) (by kernel_rfl) ?_ (fun hHeld0 => ?_)
    · trivial
    refine wu 0 rfl ?_
    refine wu 2 rfl ?_
    refine wu 3 rfl ?_
    refine wz 1 4 rfl (fun K hK => ?_) rfl fun K hK => ?_
    · skip
      go_simp
      refine hK.out _ _ ?_ (fun hHeld1 => ?_)
      · trivial
      clear hK K hHeld0
      try simp only [Act.put, List.setIfInBounds_toArray, List.set]
      refine wy 4 rfl fun K hK => ?_
      go_simp
      refine HKH.out.mono ?_
      rintro e w7 ⟨rfl, hrd, hg⟩
      have HD7 := Lib.hid (HDD.out.call hrd (Touch.of_grown hg (by simp)))
      have HOS7 : Hid (w7.ownsRow B1 101 4 (.slice sa k sc) k ((SS.take k).flatMap Spn.cells)) := own_keep HOS6.out fun g hgo hl => hg.block g hl fun e => by have := (HOS6.out.lt g hgo).1; have := Option.some.inj e; have := HB1.out; omega
      have HOR7 : Hid (w7.ownsRow W0.heap.size 63 1 (.slice ra RS.length rc) RS.length (cellsF RS)) := own_keep HOR6.out.1 fun g hgo hl => hg.block g hl fun e => by have := (HOR6.out.1.lt g hgo).1; have := Option.some.inj e; have := HRL.out; omega
      have HBL7 : Hid (B1 ≤ w7.heap.size) := Nat.le_trans HBL6.out hg.size
      obtain ⟨_, _, _, _, c4b, _⟩ := six_cells HD7.out.cell
      clear hrd hg
      go_wp2_with fail
      refine hK.out _ _ ?_ (fun hHeld2 => ?_)
      · trivial
      clear hK K hHeld1
      try simp only [Act.put, List.setIfInBounds_toArray, List.set]
      refine wu 5 rfl ?_
      refine wy 6 rfl fun K hK => ?_
      go_simp
      refine hK.out _ _ ?_ (fun hHeld3 => ?_)
      · trivial
      clear hK K hHeld2
      try simp only [Act.put, List.setIfInBounds_toArray, List.set]
      obtain ⟨Yb, hYb⟩ : ∃ Yb, Yb = w7.alloc (.cells #[.float .f64 lo, .float .f64 hi, .bool false, .bool false] 101) := ⟨_, rfl⟩
      have HBY : Hid (Below w7.heap.size w7 Yb) := hYb ▸ below_alloc (Below.refl _ _) _
      have HDY2 := Lib.hid (HD7.out.below HBY.out)
      obtain ⟨_, _, _, _, c4c, _⟩ := six_cells HDY2.out.cell
      have hownY := own_keep HOS7.out fun g _ hl => HBY.out.block g hl
      have hnews : 0 < 1 → ∃ ad, (some ⟨w7.heap.size, 0, none⟩ : Option Addr) = some ad ∧ ∀ j u, (Spn.cells ⟨lo, hi, false, false⟩)[j]? = some u → Yb.cell? (ad.add j) = some u := by rw [hYb]; exact (RowN.newH w7 _ _ 4 1 _ _ rfl rfl rfl).news
      obtain ⟨ao, cp, w8, hq, hown8, hg8, hat8⟩ := run_append_row (P := Tryz.prog) Yb B1 24 24 101 i0 _ 4 24 Tryz.underlying24 HI.out.1 HI.out.2.1 HI.out.2.2.1 HI.out.2.2.2 rfl (by decide) sa k sc _ hownY (some ⟨w7.heap.size, 0, none⟩) 1 1 _ rfl hnews (fun h => by cases h) (cells_oneS _) (by simp only [maxLen]; omega) (by omega) (Nat.le_trans HBL7.out HBY.out.size)
      have HD8 := Lib.hid (HDY2.out.grown hg8 fun g hg => by have := (hownY.lt g hg).1; have := HB1.out; exact ⟨by omega, by omega, by omega⟩)
      obtain ⟨_, _, _, _, c4d, _⟩ := six_cells HD8.out.cell
      obtain ⟨_, _, _, _, f4d, _⟩ := six_frz HD8.out.cell
      have HOS8 := Lib.hid hown8
      have HOR8 : Hid (w8.ownsRow W0.heap.size 63 1 (.slice ra RS.length rc) RS.length (cellsF RS)) := own_keep (own_keep HOR7.out fun g _ hl => HBY.out.block g hl) fun g hgo hl => hg8.block g hl fun e => by have := HOR6.out.2 g hgo; have := (hownY.lt g e.symm).1; omega
      have HBL8 : Hid (B1 ≤ w8.heap.size) := Nat.le_trans HBL7.out (Nat.le_trans HBY.out.size hg8.size)
      rw [← hYb]
      clear hownY hnews hown8 hg8 hat8 hYb
      refine wy 7 rfl fun K hK => ?_
      refine step_append_run rfl (.tmp 23) (.tmp 28) 24 rfl (by simp [Act.eval]) (by simp [Act.eval]) hq ?_
      refine hK.out _ _ ?_ (fun hHeld4 => ?_)
      · trivial
      clear hK K hHeld3
      try simp only [Act.put, List.setIfInBounds_toArray]
      refine wu 8 rfl ?_
      refine wy 9 rfl fun K hK => ?_
      go_simp
      refine hK.out _ _ ?_ (fun hHeld5 => ?_)
      · trivial
      clear hK K hHeld4
      try simp only [Act.put, List.setIfInBounds_toArray, List.set]
      refine wpAnyH_done (by kernel_rfl) ?_ _
      refine NoPanic.normal ?_
      have HD9 := Lib.hid (HD8.out.set 4 (.slice ao (k + 1) cp) (fun _ h => by cases h))
      have HOS9 : Hid (World.ownsRow _ _ _ _ _ _ _) := own_keep HOS8.out fun g hgo hl => set_far (g' := C) (i := 4) (v := .slice ao (k + 1) cp) rfl fun e => by have := (HOS8.out.lt g hgo).1; have := HB1.out; omega
      have HOR9 : Hid (World.ownsRow _ _ _ _ _ _ _) := own_keep HOR8.out fun g hgo hl => set_far (g' := C) (i := 4) (v := .slice ao (k + 1) cp) rfl fun e => by have := (HOR8.out.lt g hgo).1; have := HRL.out; omega
      clear HD8 HOS8 HOR8 HD7 HOS7 HOR7 HDY2 HD6 HOS6 HDD HKH
      go_wp2_with fail
      go_roundg (SS.length - (k + 1))
      case measure => omega
      case rel => exact ⟨k + 1, ao, cp, by go_num, by omega, rfl, HD9.out, by show World.ownsRow _ _ _ _ _ _ _; rw [HTK.out]; exact HOS9.out, ⟨HOR9.out, HOR6.out.2⟩, by show _ ≤ _; have := HBL8.out; simpa using this⟩
    · skip
      go_simp
      refine HKH.out.mono ?_
      rintro e w7 ⟨rfl, hrd, hg⟩
      have HD7 := Lib.hid (HDD.out.call hrd (Touch.of_grown hg (by simp)))
      have HOS7 : Hid (w7.ownsRow B1 101 4 (.slice sa k sc) k ((SS.take k).flatMap Spn.cells)) := own_keep HOS6.out fun g hgo hl => hg.block g hl fun e => by have := (HOS6.out.lt g hgo).1; have := Option.some.inj e; have := HB1.out; omega
      have HOR7 : Hid (w7.ownsRow W0.heap.size 63 1 (.slice ra RS.length rc) RS.length (cellsF RS)) := own_keep HOR6.out.1 fun g hgo hl => hg.block g hl fun e => by have := (HOR6.out.1.lt g hgo).1; have := Option.some.inj e; have := HRL.out; omega
      have HBL7 : Hid (B1 ≤ w7.heap.size) := Nat.le_trans HBL6.out hg.size
      obtain ⟨_, _, _, _, c4b, _⟩ := six_cells HD7.out.cell
      clear hrd hg
      go_wp2_with fail
      refine hK.out _ _ ?_ (fun hHeld6 => ?_)
      · trivial
      clear hK K hHeld0
      try simp only [Act.put, List.setIfInBounds_toArray, List.set]
      refine wu 5 rfl ?_
      refine wz 1 6 rfl (fun K hK => ?_) rfl fun K hK => ?_
      · skip
        go_simp
        refine hK.out _ _ ?_ (fun hHeld7 => ?_)
        · trivial
        clear hK K hHeld6
        try simp only [Act.put, List.setIfInBounds_toArray, List.set]
        refine wy 6 rfl fun K hK => ?_
        go_simp
        refine hK.out _ _ ?_ (fun hHeld8 => ?_)
        · trivial
        clear hK K hHeld7
        try simp only [Act.put, List.setIfInBounds_toArray, List.set]
        obtain ⟨Yb, hYb⟩ : ∃ Yb, Yb = w7.alloc (.cells #[.float .f64 lo, .float .f64 hi, .bool false, .bool false] 101) := ⟨_, rfl⟩
        have HBY : Hid (Below w7.heap.size w7 Yb) := hYb ▸ below_alloc (Below.refl _ _) _
        have HDY2 := Lib.hid (HD7.out.below HBY.out)
        obtain ⟨_, _, _, _, c4c, _⟩ := six_cells HDY2.out.cell
        have hownY := own_keep HOS7.out fun g _ hl => HBY.out.block g hl
        have hnews : 0 < 1 → ∃ ad, (some ⟨w7.heap.size, 0, none⟩ : Option Addr) = some ad ∧ ∀ j u, (Spn.cells ⟨lo, hi, false, false⟩)[j]? = some u → Yb.cell? (ad.add j) = some u := by rw [hYb]; exact (RowN.newH w7 _ _ 4 1 _ _ rfl rfl rfl).news
        obtain ⟨ao, cp, w8, hq, hown8, hg8, hat8⟩ := run_append_row (P := Tryz.prog) Yb B1 24 24 101 i0 _ 4 24 Tryz.underlying24 HI.out.1 HI.out.2.1 HI.out.2.2.1 HI.out.2.2.2 rfl (by decide) sa k sc _ hownY (some ⟨w7.heap.size, 0, none⟩) 1 1 _ rfl hnews (fun h => by cases h) (cells_oneS _) (by simp only [maxLen]; omega) (by omega) (Nat.le_trans HBL7.out HBY.out.size)
        have HD8 := Lib.hid (HDY2.out.grown hg8 fun g hg => by have := (hownY.lt g hg).1; have := HB1.out; exact ⟨by omega, by omega, by omega⟩)
        obtain ⟨_, _, _, _, c4d, _⟩ := six_cells HD8.out.cell
        obtain ⟨_, _, _, _, f4d, _⟩ := six_frz HD8.out.cell
        have HOS8 := Lib.hid hown8
        have HOR8 : Hid (w8.ownsRow W0.heap.size 63 1 (.slice ra RS.length rc) RS.length (cellsF RS)) := own_keep (own_keep HOR7.out fun g _ hl => HBY.out.block g hl) fun g hgo hl => hg8.block g hl fun e => by have := HOR6.out.2 g hgo; have := (hownY.lt g e.symm).1; omega
        have HBL8 : Hid (B1 ≤ w8.heap.size) := Nat.le_trans HBL7.out (Nat.le_trans HBY.out.size hg8.size)
        rw [← hYb]
        clear hownY hnews hown8 hg8 hat8 hYb
        refine wy 7 rfl fun K hK => ?_
        refine step_append_run rfl (.tmp 23) (.tmp 28) 24 rfl (by simp [Act.eval]) (by simp [Act.eval]) hq ?_
        refine hK.out _ _ ?_ (fun hHeld9 => ?_)
        · trivial
        clear hK K hHeld8
        try simp only [Act.put, List.setIfInBounds_toArray]
        refine wu 8 rfl ?_
        refine wy 9 rfl fun K hK => ?_
        go_simp
        refine hK.out _ _ ?_ (fun hHeld10 => ?_)
        · trivial
        clear hK K hHeld9
        try simp only [Act.put, List.setIfInBounds_toArray, List.set]
        refine wpAnyH_done (by kernel_rfl) ?_ _
        refine NoPanic.normal ?_
        have HD9 := Lib.hid (HD8.out.set 4 (.slice ao (k + 1) cp) (fun _ h => by cases h))
        have HOS9 : Hid (World.ownsRow _ _ _ _ _ _ _) := own_keep HOS8.out fun g hgo hl => set_far (g' := C) (i := 4) (v := .slice ao (k + 1) cp) rfl fun e => by have := (HOS8.out.lt g hgo).1; have := HB1.out; omega
        have HOR9 : Hid (World.ownsRow _ _ _ _ _ _ _) := own_keep HOR8.out fun g hgo hl => set_far (g' := C) (i := 4) (v := .slice ao (k + 1) cp) rfl fun e => by have := (HOR8.out.lt g hgo).1; have := HRL.out; omega
        clear HD8 HOS8 HOR8 HD7 HOS7 HOR7 HDY2 HD6 HOS6 HDD HKH
        go_wp2_with fail
        go_roundg (SS.length - (k + 1))
        case measure => omega
        case rel => exact ⟨k + 1, ao, cp, by go_num, by omega, rfl, HD9.out, by show World.ownsRow _ _ _ _ _ _ _; rw [HTK.out]; exact HOS9.out, ⟨HOR9.out, HOR6.out.2⟩, by show _ ≤ _; have := HBL8.out; simpa using this⟩
      · skip
        go_simp
        refine hK.out _ _ ?_ (fun hHeld11 => ?_)
        · trivial
        clear hK K hHeld6
        try simp only [Act.put, List.setIfInBounds_toArray, List.set]
        obtain ⟨Yb, hYb⟩ : ∃ Yb, Yb = w7.alloc (.cells #[.float .f64 lo, .float .f64 hi, .bool false, .bool false] 101) := ⟨_, rfl⟩
        have HBY : Hid (Below w7.heap.size w7 Yb) := hYb ▸ below_alloc (Below.refl _ _) _
        have HDY2 := Lib.hid (HD7.out.below HBY.out)
        obtain ⟨_, _, _, _, c4c, _⟩ := six_cells HDY2.out.cell
        have hownY := own_keep HOS7.out fun g _ hl => HBY.out.block g hl
        have hnews : 0 < 1 → ∃ ad, (some ⟨w7.heap.size, 0, none⟩ : Option Addr) = some ad ∧ ∀ j u, (Spn.cells ⟨lo, hi, false, false⟩)[j]? = some u → Yb.cell? (ad.add j) = some u := by rw [hYb]; exact (RowN.newH w7 _ _ 4 1 _ _ rfl rfl rfl).news
        obtain ⟨ao, cp, w8, hq, hown8, hg8, hat8⟩ := run_append_row (P := Tryz.prog) Yb B1 24 24 101 i0 _ 4 24 Tryz.underlying24 HI.out.1 HI.out.2.1 HI.out.2.2.1 HI.out.2.2.2 rfl (by decide) sa k sc _ hownY (some ⟨w7.heap.size, 0, none⟩) 1 1 _ rfl hnews (fun h => by cases h) (cells_oneS _) (by simp only [maxLen]; omega) (by omega) (Nat.le_trans HBL7.out HBY.out.size)
        have HD8 := Lib.hid (HDY2.out.grown hg8 fun g hg => by have := (hownY.lt g hg).1; have := HB1.out; exact ⟨by omega, by omega, by omega⟩)
        obtain ⟨_, _, _, _, c4d, _⟩ := six_cells HD8.out.cell
        obtain ⟨_, _, _, _, f4d, _⟩ := six_frz HD8.out.cell
        have HOS8 := Lib.hid hown8
        have HOR8 : Hid (w8.ownsRow W0.heap.size 63 1 (.slice ra RS.length rc) RS.length (cellsF RS)) := own_keep (own_keep HOR7.out fun g _ hl => HBY.out.block g hl) fun g hgo hl => hg8.block g hl fun e => by have := HOR6.out.2 g hgo; have := (hownY.lt g e.symm).1; omega
        have HBL8 : Hid (B1 ≤ w8.heap.size) := Nat.le_trans HBL7.out (Nat.le_trans HBY.out.size hg8.size)
        rw [← hYb]
        clear hownY hnews hown8 hg8 hat8 hYb
        refine wy 1 rfl fun K hK => ?_
        go_simp
        refine hK.out _ _ ?_ (fun hHeld12 => ?_)
        · trivial
        clear hK K hHeld11
        try simp only [Act.put, List.setIfInBounds_toArray, List.set]
        refine wy 7 rfl fun K hK => ?_
        refine step_append_run rfl (.tmp 23) (.tmp 28) 24 rfl (by simp [Act.eval]) (by simp [Act.eval]) hq ?_
        refine hK.out _ _ ?_ (fun hHeld13 => ?_)
        · trivial
        clear hK K hHeld12
        try simp only [Act.put, List.setIfInBounds_toArray]
        refine wu 8 rfl ?_
        refine wy 9 rfl fun K hK => ?_
        go_simp
        refine hK.out _ _ ?_ (fun hHeld14 => ?_)
        · trivial
        clear hK K hHeld13
        try simp only [Act.put, List.setIfInBounds_toArray, List.set]
        refine wpAnyH_done (by kernel_rfl) ?_ _
        refine NoPanic.normal ?_
        have HD9 := Lib.hid (HD8.out.set 4 (.slice ao (k + 1) cp) (fun _ h => by cases h))
        have HOS9 : Hid (World.ownsRow _ _ _ _ _ _ _) := own_keep HOS8.out fun g hgo hl => set_far (g' := C) (i := 4) (v := .slice ao (k + 1) cp) rfl fun e => by have := (HOS8.out.lt g hgo).1; have := HB1.out; omega
        have HOR9 : Hid (World.ownsRow _ _ _ _ _ _ _) := own_keep HOR8.out fun g hgo hl => set_far (g' := C) (i := 4) (v := .slice ao (k + 1) cp) rfl fun e => by have := (HOR8.out.lt g hgo).1; have := HRL.out; omega
        clear HD8 HOS8 HOR8 HD7 HOS7 HOR7 HDY2 HD6 HOS6 HDD HKH
        go_wp2_with fail
        go_roundg (SS.length - (k + 1))
        case measure => omega
        case rel => exact ⟨k + 1, ao, cp, by go_num, by omega, rfl, HD9.out, by show World.ownsRow _ _ _ _ _ _ _; rw [HTK.out]; exact HOS9.out, ⟨HOR9.out, HOR6.out.2⟩, by show _ ≤ _; have := HBL8.out; simpa using this⟩
  · obtain rfl : k = SS.length := by omega
    have hd := HD.out
    rw [List.drop_of_length_le (Nat.le_refl _)] at hd
    have hos := HOS.out
    rw [List.take_of_length_le (Nat.le_refl _)] at hos
    have HDe : Hid (DecS W0 wr C R _ (numBytes (WS.length : Nat) ++ (keysB WS ++ []))) := hd
    have HOSe := Lib.hid hos
    have HK2 := Lib.hid (keys_ok R 16 WS HS.out.writes ⟨by have := HS.out.lw; simp only at this; omega, by omega⟩ _ wr hd.rd)
    clear hd hos HD HOS
    go_wp2_with fail
    refine HK2.out.mono ?_
    rintro e w7 ⟨wa, wc, rfl, how, hrd, ht⟩
    have HD7 := Lib.hid (HDe.out.call hrd ht)
    obtain ⟨_, _, _, _, _, c5⟩ := six_cells HD7.out.cell
    obtain ⟨_, _, _, _, _, f5⟩ := six_frz HD7.out.cell
    obtain ⟨Z, hZ⟩ : ∃ Z, Z = w7.setCell ⟨C, 5, none⟩ (.slice wa WS.length wc) := ⟨_, rfl⟩
    have HDZ : Hid (DecS W0 Z C R #[.int .i64 se, .int .i64 sq, .int .i64 sn, .slice ra RS.length rc, .slice sa SS.length sc, .slice wa WS.length wc] _) := hZ ▸ HD7.out.set 5 (.slice wa WS.length wc) (fun _ h => by cases h)
    have h1 : Z.ownsRow W0.heap.size 63 1 (.slice ra RS.length rc) RS.length (cellsF RS) := hZ ▸ own_keep (own_keep HOR.out.1 fun g hgo hl => ht.block g hl (by have := (HOR.out.1.lt g hgo).1; have := HRL.out; simp; omega)) fun g hgo hl => set_far rfl fun e => by have := (HOR.out.1.lt g hgo).1; have := HRL.out; omega
    have h2 : Z.ownsRow B1 101 4 (.slice sa SS.length sc) SS.length (SS.flatMap Spn.cells) := hZ ▸ own_keep (own_keep HOSe.out fun g hgo hl => ht.block g hl (by have := (HOSe.out.lt g hgo).1; have := HB1.out; simp; omega)) fun g hgo hl => set_far rfl fun e => by have := (HOSe.out.lt g hgo).1; have := HB1.out; omega
    have h3 : Z.ownsRow wr.heap.size 63 1 (.slice wa WS.length wc) WS.length (cellsF WS) := hZ ▸ own_keep how fun g hgo hl => set_far rfl fun e => by have := (how.lt g hgo).1; have := HBL.out; have := HB1.out; omega
    have hmok : SubM.ok Z ⟨⟨se, sq, sn, RS, SS, WS⟩, ra, rc, sa, sc, wa, wc⟩ := ⟨⟨fun x hx => (HS.out.reads x hx).1, fun x hx => (HS.out.spans x hx).ok, fun x hx => (HS.out.writes x hx).1⟩, RowN.of_own h1, RowN.of_own h2, RowN.of_own h3, by have := HS.out.lr; simp only at this ⊢; omega, by have := HS.out.ls; simp only at this ⊢; omega, by have := HS.out.lw; simp only at this ⊢; omega⟩
    have hch := check_any ⟨⟨se, sq, sn, RS, SS, WS⟩, ra, rc, sa, sc, wa, wc⟩ Z hmok
    rw [HCK.out] at hch
    have HCH := Lib.hid hch
    have HFIN : Hid (∀ W, Below Z.heap.size Z W → post (.returned (.tuple #[])) W) := fun W hb => by
     rw [HPOST.out]
     have hdw := HDZ.out.below hb
     exact ⟨rfl, hdw.rd, hdw.touch, ⟨⟨se, sq, sn, RS, SS, WS⟩, ra, rc, sa, sc, wa, wc⟩, rfl, hdw.cell, hmok.below hb, fun b off e => (row_base h1 b off e).1, fun b off e => Nat.le_trans HB1.out.1 (row_base h2 b off e).1, fun b off e => Nat.le_trans (Nat.le_trans HB1.out.1 HBL.out) (row_base h3 b off e).1⟩
    have HZ := Lib.hid hZ
    clear how hrd ht hZ h1 h2 h3 hmok hch HK2 HDe HOSe HOR HBL HI
    go_upto_region 8 with fail
    rw [← HZ.out]
    clear HZ c5 f5 HD7
    obtain ⟨g0, g1, g2, g3, g4, g5⟩ := six_cells HDZ.out.cell
    go_wp2_with fail
    refine HCH.out.mono ?_
    rintro e w8 ⟨rfl, hb8⟩
    have HPF := Lib.hid (HFIN.out _ hb8)
    clear hb8 g0 g1 g2 g3 g4 g5 HCH HFIN HPOST
    go_wp2_with fail
    go_end0
    exact HPF.out
theorem six_set {w : World} {B : Nat} {T : TypeId} {fr : Nat × Nat} {a0 a1 a2 a3 a4 a5 : Value} (h : w.heap[B]? = some (.cells #[a0, a1, a2, a3, a4, a5] T fr)) (v0 v1 v2 v3 v4 v5 : Value) :
 ((((((w.setCell ⟨B, 0, none⟩ v0).setCell ⟨B, 1, none⟩ v1).setCell ⟨B, 2, none⟩ v2).setCell ⟨B, 3, none⟩ v3).setCell ⟨B, 4, none⟩ v4).setCell ⟨B, 5, none⟩ v5).heap[B]? = some (.cells #[v0, v1, v2, v3, v4, v5] T fr) ∧
 w.grownBy ((((((w.setCell ⟨B, 0, none⟩ v0).setCell ⟨B, 1, none⟩ v1).setCell ⟨B, 2, none⟩ v2).setCell ⟨B, 3, none⟩ v3).setCell ⟨B, 4, none⟩ v4).setCell ⟨B, 5, none⟩ v5) (some B) :=
 ⟨set_block (i := 5) (set_block (i := 4) (set_block (i := 3) (set_block (i := 2) (set_block (i := 1) (set_block (i := 0) h v0) v1) v2) v3) v4) v5,
  (((((grown_set w B 0 v0).trans (grown_set _ B 1 v1)).trans (grown_set _ B 2 v2)).trans (grown_set _ B 3 v3)).trans (grown_set _ B 4 v4)).trans (grown_set _ B 5 v5)⟩
def DecOut (w : World) (s : SubP) (e : Ending) (w' : World) : Prop :=
 ∃ m : SubM, m.s = s ∧ e = .returned (.tuple #[m.args, .int .i64 0]) ∧ m.ok w' ∧ Below w.heap.size w w' ∧ (∀ b off, m.ra = some ⟨b, off, none⟩ → w.heap.size ≤ b) ∧ (∀ b off, m.sa = some ⟨b, off, none⟩ → w.heap.size ≤ b) ∧ (∀ b off, m.wa = some ⟨b, off, none⟩ → w.heap.size ≤ b)
def DecRd (w : World) (C : Nat) (s : SubP) (e : Ending) (w' : World) : Prop :=
 e = .returned (.int .i64 0) ∧ Touch [C] w w' ∧ ∃ m : SubM, m.s = s ∧ w'.heap[C]? = some (.cells #[.int .i64 m.s.session, .int .i64 m.s.seq, .int .i64 m.s.snap, .slice m.ra m.s.reads.length m.rc, .slice m.sa m.s.spans.length m.sc, .slice m.wa m.s.writes.length m.wc] 26 (0, 0)) ∧ m.ok w' ∧ (∀ b off, m.ra = some ⟨b, off, none⟩ → w.heap.size ≤ b) ∧ (∀ b off, m.sa = some ⟨b, off, none⟩ → w.heap.size ≤ b) ∧ (∀ b off, m.wa = some ⟨b, off, none⟩ → w.heap.size ≤ b)
theorem dec_read (a : Option Addr) (n cap : Nat) (s : SubP) (hs : s.Right) (hc : checkP s = 0) (X : World) (C : Nat) (hr : Row8 X a n (subBytes s)) (hnc : n ≤ cap) (hcm : cap ≤ maxLen) (hnil : a = none → cap = 0) (hC : X.heap[C]? = some (.cells #[.int .i64 0, .int .i64 0, .int .i64 0, .slice none 0 0, .slice none 0 0, .slice none 0 0] 26 (0, 0))) :
 Calls Tryz.prog 77 #[.slice a n cap, .func (.func 78) #[] #[.pointer (some ⟨C, 0, none⟩)]] X (DecRd X C s) := by
 have hCl := lt_of_block hC
 have hSs := readStart_size X a n cap
 have hSb := readStart_below X a n cap
 have hl := decFn_any C (X.heap.size + 1) s hs hc (readStart X a n cap) (by omega) (Rd.start hr hnc hcm hnil) ((readStart_old hCl).trans hC)
 have hcode : (readStart X a n cap).heap[X.heap.size]? = some (.cells #[.int .i64 0] 33 (0, 0)) := (heap_alloc_old _ _ (by rw [World.size_alloc]; omega)).trans (heap_alloc_new X _)
 have key := read_any 78 #[.pointer (some ⟨C, 0, none⟩)] a n cap X
  (fun rest w' => rest = [] ∧ Touch [X.heap.size + 1, C] (readStart X a n cap) w' ∧ ∃ m : SubM, m.s = s ∧ w'.heap[C]? = some (.cells #[.int .i64 m.s.session, .int .i64 m.s.seq, .int .i64 m.s.snap, .slice m.ra m.s.reads.length m.rc, .slice m.sa m.s.spans.length m.sc, .slice m.wa m.s.writes.length m.wc] 26 (0, 0)) ∧ m.ok w' ∧ (∀ b off, m.ra = some ⟨b, off, none⟩ → X.heap.size + 2 ≤ b) ∧ (∀ b off, m.sa = some ⟨b, off, none⟩ → X.heap.size + 2 ≤ b) ∧ (∀ b off, m.wa = some ⟨b, off, none⟩ → X.heap.size + 2 ≤ b))
  (fun _ _ => False) (enters_of Tryz.func78 (by kernel_rfl) rfl) (hl.mono fun e w' hp => by
   obtain ⟨he, hrd, ht, hm⟩ := hp
   rw [hSs] at hm
   exact ⟨(ht.block X.heap.size (by omega) (by simp; omega)).trans hcode, .inl ⟨[], he, hrd, rfl, ht, hm⟩⟩)
 refine key.mono ?_
 rintro e w2 (⟨rest, w1, ⟨rfl, ht, m, h1, h2, h3, h4, h5, h6⟩, rfl, hz, hg⟩ | ⟨_, _, h, _, _⟩)
 · have hts := ht.size
   refine ⟨rfl, ⟨hg.os.trans (ht.os.trans hSb.os), hg.tape.trans (ht.tape.trans hSb.tape), hg.output.trans (ht.output.trans hSb.output), by have := hg.size; omega, fun k hk hn => (hg.block k (by omega) (fun e => by injection e; omega)).trans ((ht.block k (by omega) (by simp at hn ⊢; omega)).trans (readStart_old hk))⟩,
    m, h1, (hg.block C (by omega) (fun e => by injection e; omega)).trans h2, ?_, fun b off e => by have := h4 b off e; omega, fun b off e => by have := h5 b off e; omega, fun b off e => by have := h6 b off e; omega⟩
   exact ⟨h3.words, h3.reads.keep fun b off e _ hl => hg.block b hl fun e2 => by have := h4 b off e; injection e2; omega, h3.spans.keep fun b off e _ hl => hg.block b hl fun e2 => by have := h5 b off e; injection e2; omega, h3.writes.keep fun b off e _ hl => hg.block b hl fun e2 => by have := h6 b off e; injection e2; omega, h3.lr, h3.ls, h3.lw⟩
 · exact h.elim
set_option maxRecDepth 100000 in
set_option maxHeartbeats 6400000 in
theorem decode_ok (a : Option Addr) (n cap : Nat) (s : SubP) (hs : s.Right) (hc : checkP s = 0) (w : World) (hr : Row8 w a n (subBytes s)) (hnc : n ≤ cap) (hcm : cap ≤ maxLen) (hnil : a = none → cap = 0) :
 Calls Tryz.prog 42 #[.slice a n cap] w (DecOut w s) := by
 obtain ⟨D, hD⟩ : ∃ D, D = w.heap.size := ⟨_, rfl⟩
 obtain ⟨X, hX⟩ : ∃ X, X = (w.alloc (.cells #[.int .i64 0, .int .i64 0, .int .i64 0, .slice none 0 0, .slice none 0 0, .slice none 0 0] 26)).alloc (.cells #[.int .i64 0, .int .i64 0, .int .i64 0, .slice none 0 0, .slice none 0 0, .slice none 0 0] 26) := ⟨_, rfl⟩
 have hb : Below w.heap.size w X := hX ▸ below_alloc (below_alloc (Below.refl _ _) _) _
 have hd0 : X.heap[D]? = some (.cells #[.int .i64 0, .int .i64 0, .int .i64 0, .slice none 0 0, .slice none 0 0, .slice none 0 0] 26 (0, 0)) := by rw [hX, hD]; exact alloc_keep (heap_alloc_new w _) _
 have hc0 : X.heap[D + 1]? = some (.cells #[.int .i64 0, .int .i64 0, .int .i64 0, .slice none 0 0, .slice none 0 0, .slice none 0 0] 26 (0, 0)) := by rw [hX, hD]; exact alloc_new1 w _ _
 have hrd := dec_read a n cap s hs hc X (D + 1) (hr.below hb) hnc hcm hnil hc0
 have hmf : ∀ (fn : Fn) (first cap : Array Value) (w : World), (Instr.makeFunc fn first cap).run Tryz.prog w = .ok (.func fn first cap) w := fun _ _ _ _ => rfl
 have HRD := Lib.hid hrd
 have HB := Lib.hid hb
 have HD0 := Lib.hid hd0
 have HX := Lib.hid hX
 have HD := Lib.hid hD
 clear hrd hb hd0 hc0 hX hD hr hs hc
 go_enter Tryz.func42, Tryz.ntmps42
 go_upto_region 2 with fail
 rw [← HX.out, ← HD.out]
 go_wp2_with fail
 refine HRD.out.mono ?_
 rintro e w2 ⟨rfl, ht, m, h1, h2, h3, h4, h5, h6⟩
 have hd2 := (ht.block D (lt_of_block HD0.out) (by simp)).trans HD0.out
 obtain ⟨c0, c1, c2, c3, c4, c5⟩ := six_cells h2
 obtain ⟨d0, d1, d2, d3, d4, d5⟩ := six_cells hd2
 obtain ⟨f0, f1, f2, f3, f4, f5⟩ := six_frz hd2
 have HD2 := Lib.hid hd2
 have HT := Lib.hid ht
 have HM := Lib.hid (And.intro h1 (And.intro h3 (And.intro h4 (And.intro h5 h6))))
 clear ht h1 h2 h3 h4 h5 h6 hd2 HRD
 go_wp2_with fail
 have hXs : X.heap.size = w.heap.size + 2 := by rw [HX.out, World.size_alloc, World.size_alloc]
 have hk := six_set HD2.out (.int .i64 m.s.session) (.int .i64 m.s.seq) (.int .i64 m.s.snap) (.slice m.ra m.s.reads.length m.rc) (.slice m.sa m.s.spans.length m.sc) (.slice m.wa m.s.writes.length m.wc)
 obtain ⟨hm1, hm2, hm3, hm4, hm5⟩ := HM.out
 have hDX : D < X.heap.size := lt_of_block HD0.out
 have hDw := HD.out
 refine bodyPost_ret (results_cell_tmp Tryz.results42 rfl (load_sub hk.1)) rfl ⟨m, hm1, rfl, ?_, ?_, fun b off e => Nat.le_trans HB.out.size (hm3 b off e), fun b off e => Nat.le_trans HB.out.size (hm4 b off e), fun b off e => Nat.le_trans HB.out.size (hm5 b off e)⟩
 · exact ⟨hm2.words, hm2.reads.keep fun b off e _ hl => hk.2.block b hl fun e2 => by have := hm3 b off e; have := Option.some.inj e2; omega, hm2.spans.keep fun b off e _ hl => hk.2.block b hl fun e2 => by have := hm4 b off e; have := Option.some.inj e2; omega, hm2.writes.keep fun b off e _ hl => hk.2.block b hl fun e2 => by have := hm5 b off e; have := Option.some.inj e2; omega, hm2.lr, hm2.ls, hm2.lw⟩
 · have hb2 : Below w.heap.size w w2 := HT.out.below HB.out HB.out.size fun k hk => by simp at hk; omega
   exact hb2.grown hk.2 hb2.size fun g hg => by have := Option.some.inj hg; omega
end Go.Proofs.YtpknmfmpiachkaaGreat
