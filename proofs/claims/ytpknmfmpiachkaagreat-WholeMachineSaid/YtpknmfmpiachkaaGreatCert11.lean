/- cert's Decide: the walk. -/
import Derived.Test.YtpknmfmpiachkaaGreatCert8
import Derived.Test.YtpknmfmpiachkaaGreatPush
namespace Go.Proofs.YtpknmfmpiachkaaGreat
open Go.RowKit
theorem step_append_run {P : Program} {w w' : World} {ops : Array Oper} {o : Oper} {a : Act} {K : Act → World → Prop} {Q : Exit → Act → World → Prop} {E : Prop} (hgd : o.guard = none) (s x : Operand) (t : TypeId)
 (ho : o.op = .call { callee := .builtin .append, args := #[s, x], argTypes := #[t, t] }) {sv xv v : Value} (hs : a.eval s = sv) (hx : a.eval x = xv) (hr : (Builtin.append_ #[t, t] o.type #[sv, xv]).run P w = .ok v w') (h : K (a.put o.dst v) w') :
 if Region.wanted o (yielded ops a.tmps) = true then Oper.wp P o a w K Q else E := by
 have hw : Region.wanted o (yielded ops a.tmps) = true := by simp [Region.wanted, hgd]
 rw [if_pos hw]
 unfold Oper.wp execOp
 simp only [ho, resolve, invoke, builtin, Sem.run_bind, Sem.run_pure, Result.andThen_ok, List.map_toArray, List.map_cons, List.map_nil, hs, hx, hr]
 exact h
theorem load_verdict {w : World} {B : Nat} {c0 c1 : Value} (h : w.heap[B]? = some (.cells #[c0, c1] 35 (0, 0))) : (loadVar 35 ⟨B, 0, none⟩).run Tryz.prog w = .ok (.agg #[c0, c1]) w := by
 refine run_loadVar_mid w B 0 _ [c0, c1] _ (fun j v hv => ?_) Tryz.underlying35 rfl (by kernel_rfl)
 simp only [World.cell?, h, Nat.zero_add]
 rw [← hv]
 simp
theorem set2 {w : World} {B : Nat} {T : TypeId} {fr : Nat × Nat} {a0 a1 : Value} (h : w.heap[B]? = some (.cells #[a0, a1] T fr)) (v0 v1 : Value) :
 ((w.setCell ⟨B, 0, none⟩ v0).setCell ⟨B, 1, none⟩ v1).heap[B]? = some (.cells #[v0, v1] T fr) := set_block (i := 1) (set_block (i := 0) h v0) v1
theorem CertAt.count {κ : Nat → Nat} {w : World} {k A : Nat} {c : CertV} (h : CertAt w κ k A c) (q : Int) : CertAt (w.setCell ⟨A, 2, none⟩ (.int .i64 q)) κ k A { c with count := q } ∧ Chg (· = k) κ κ w (w.setCell ⟨A, 2, none⟩ (.int .i64 q)) := by
 obtain ⟨N1, N2, N3, N4, a, n, cap, h0, hA, h1, h2, h3, h4, h5⟩ := h
 have hc : Chg (· = k) κ κ w (w.setCell ⟨A, 2, none⟩ (.int .i64 q)) := Chg.of_grown (grown_set w A 2 _) hA
 exact ⟨⟨N1, N2, N3, N4, a, n, cap, set_block (i := 2) h0 _, hA, h1.chg hc (by omega), h2.chg hc (by omega), h3.chg hc (by omega), h4.chg hc (by omega), h5.chg hc (by omega) (by omega)⟩, hc⟩
theorem CertAt.cells {κ : Nat → Nat} {w : World} {k A : Nat} {c : CertV} (h : CertAt w κ k A c) : w.cell? ⟨A, 0, none⟩ = some (.int .i64 (c.keep : Nat)) ∧ w.cell? ⟨A, 2, none⟩ = some (.int .i64 c.count) ∧ w.cell? ⟨A, 3, none⟩ = some (.int .i64 c.horizon) ∧ w.frozen? ⟨A, 2, none⟩ = false ∧ w.frozen? ⟨A, 4, none⟩ = false ∧ ∃ a n cap, w.cell? ⟨A, 4, none⟩ = some (.slice a n cap) ∧ RecsAt w κ (k + 5) (k + 6) a n cap c.recs := by
 obtain ⟨N1, N2, N3, N4, a, n, cap, h0, hA, h1, h2, h3, h4, h5⟩ := h
 obtain ⟨q0, _, q2, q3, q4, _⟩ := nine_cells (show w.heap[A]? = some (.cells #[_, _, _, _, _, _, _, _, _] _ _) from h0)
 exact ⟨q0, q2, q3, by simp [World.frozen?, h0], by simp [World.frozen?, h0], a, n, cap, q4, h5⟩
set_option maxRecDepth 100000 in
set_option maxHeartbeats 25600000 in
theorem decide_any (κ : Nat → Nat) (k A : Nat) (c : CertV) (hc : c.Ok) (m : SubM) (w : World) (hC : CertAt w κ k A c) (hm : m.ok w) (hma : Away κ k m) :
 Calls Tryz.prog 9 #[.pointer (some ⟨A, 0, none⟩), m.args] w (DecPost κ w k A c m.s) := by
 have hch := fun W (hb : Below w.heap.size w W) => check_any m W (hm.below hb)
 have hwords := hm.words
 obtain ⟨E, hE⟩ : ∃ E, E = checkP m.s := ⟨_, rfl⟩
 rw [← hE] at hch
 have hCB := fun W (hb : Below w.heap.size w W) => hC.chg (Chg.of_below (J := fun _ => False) hb) (fun _ h => h.elim)
 have HCB := Lib.hid hCB
 have HC := Lib.hid hC
 have HM := Lib.hid hm
 have HOK := Lib.hid hc
 have HCH := Lib.hid hch
 have HE := Lib.hid hE
 have HW := Lib.hid hwords
 have HMA := Lib.hid hma
 have hcount := hc.count
 clear hCB hC hm hc hch hE hwords hma
 obtain ⟨Y, hY⟩ : ∃ Y, Y = (w.alloc (.cells #[.int .i64 m.s.session, .int .i64 m.s.seq, .int .i64 m.s.snap, .slice m.ra m.s.reads.length m.rc, .slice m.sa m.s.spans.length m.sc, .slice m.wa m.s.writes.length m.wc] 26)).alloc (.cells #[.int .i64 0, .int .i64 0] 35) := ⟨_, rfl⟩
 have BY : Hid (Below w.heap.size w Y) := hY ▸ below_alloc (below_alloc (Below.refl _ _) _) _
 have SY : Hid (Y.heap[w.heap.size]? = some (.cells #[.int .i64 m.s.session, .int .i64 m.s.seq, .int .i64 m.s.snap, .slice m.ra m.s.reads.length m.rc, .slice m.sa m.s.spans.length m.sc, .slice m.wa m.s.writes.length m.wc] 26 (0, 0))) := hY ▸ alloc_keep (heap_alloc_new w _) _
 have RY : Hid (Y.heap[w.heap.size + 1]? = some (.cells #[.int .i64 0, .int .i64 0] 35 (0, 0))) := hY ▸ alloc_new1 _ _ _
 obtain ⟨c0, c1, c2, c3, c4, c5⟩ := six_cells SY.out
 rw [show #[.pointer (some ⟨A, 0, none⟩), m.args] = #[Value.pointer (some ⟨A, 0, none⟩), .agg #[.int .i64 m.s.session, .int .i64 m.s.seq, .int .i64 m.s.snap, .slice m.ra m.s.reads.length m.rc, .slice m.sa m.s.spans.length m.sc, .slice m.wa m.s.writes.length m.wc]] from rfl]
 unfold SubM.args at HCH
 go_enter Tryz.func9, Tryz.ntmps9
 go_upto_region 1 with fail
 rw [← hY]
 clear hY
 go_wp2_with fail
 refine (HCH.out _ BY.out).mono ?_
 rintro e w1 ⟨rfl, hb1⟩
 have B1 : Hid (Below w.heap.size w w1) := below_then BY.out hb1
 have S1 : Hid (w1.heap[w.heap.size]? = _) := (hb1.block _ (lt_of_block SY.out)).trans SY.out
 have R1 : Hid (w1.heap[w.heap.size + 1]? = _) := (hb1.block _ (lt_of_block RY.out)).trans RY.out
 clear hb1 c0 c1 c2 c3 c4 c5 SY RY HCH
 by_cases hE0 : E = 0
 case neg =>
  have hne : (E != 0) = true := by simpa using hE0
  have hrb := two_cells R1.out
  obtain ⟨v0, v1, f0, f1⟩ := hrb
  go_wp2_with fail
  refine bodyPost_ret (results_cell Tryz.results9 rfl (load_verdict (set2 R1.out (.int .i64 E) (.int .i64 0)))) rfl (dec_refuse HC.out (below_set (below_set B1.out _ (by omega)) _ (by omega)) hE0 ?_)
  unfold refuseP
  rw [← HE.out, if_pos hE0]
 have hEs : checkP m.s = 0 := HE.out.symm.trans hE0
 have HEs := Lib.hid hEs
 have HR := Lib.hid (check_right HW.out hEs)
 subst hE0
 have HCE : Hid (∀ x : Int, (if checkP m.s ≠ 0 then checkP m.s else x) = x) := fun x => if_neg (by rw [hEs]; exact fun h => h rfl)
 clear hEs
 obtain ⟨q0, q2, q3, _⟩ := (HCB.out w1 B1.out).cells
 obtain ⟨_, _, s2, _⟩ := six_cells S1.out
 by_cases h1 : c.count = 1099511627776
 · have hb : (c.count == 1099511627776) = true := by simpa using h1
   have hrb := two_cells R1.out
   obtain ⟨v0, v1, f0, f1⟩ := hrb
   go_wp2_with fail
   refine bodyPost_ret (results_cell Tryz.results9 rfl (load_verdict (set2 R1.out (.int .i64 3) (.int .i64 0)))) rfl (dec_refuse HC.out (below_set (below_set B1.out _ (by omega)) _ (by omega)) (by decide) ?_)
   unfold refuseP
   rw [HCE.out, if_pos h1]
 · have hb : (c.count == 1099511627776) = false := by simpa using h1
   by_cases h2 : c.count < m.s.snap
   · go_wp2_with fail
     go_region
     have hrb := two_cells R1.out
     obtain ⟨v0, v1, f0, f1⟩ := hrb
     go_wp2_with fail
     refine bodyPost_ret (results_cell Tryz.results9 rfl (load_verdict (set2 (w := w1.drew) R1.out (.int .i64 113) (.int .i64 0)))) rfl (dec_refuse HC.out (below_set (below_set B1.out.drew _ (by omega)) _ (by omega)) (by decide) ?_)
     unfold refuseP
     rw [HCE.out, if_neg h1, if_pos h2]
   · by_cases h3 : m.s.snap < c.horizon
     · go_wp2_with fail
       go_region
       go_wp2_with fail
       go_region
       have hrb := two_cells R1.out
       obtain ⟨v0, v1, f0, f1⟩ := hrb
       go_wp2_with fail
       refine bodyPost_ret (results_cell Tryz.results9 rfl (load_verdict (set2 (w := w1.drew.drew) R1.out (.int .i64 110) (.int .i64 0)))) rfl (dec_refuse HC.out (below_set (below_set B1.out.drew.drew _ (by omega)) _ (by omega)) (by decide) ?_)
       unfold refuseP
       rw [HCE.out, if_neg h1, if_neg (show ¬ c.count < m.s.snap by omega), if_pos h3]
     · have hrest : refuseP c m.s = if (besideP c m.s).written then 111 else if dangerP (besideP c m.s) then 112 else 0 := by
        unfold refuseP
        rw [HCE.out, if_neg h1, if_neg h2, if_neg h3]
       have hbs := fun W (hb : Below w.heap.size w W) => beside_any κ k A c HOK.out m HR.out W (HCB.out W hb) (HM.out.below hb)
       obtain ⟨LK, hLK⟩ : ∃ LK, LK = besideP c m.s := ⟨_, rfl⟩
       rw [← hLK] at hrest hbs
       obtain ⟨lw, lo, ll, lm⟩ := LK
       unfold LookP.agg at hbs
       simp only at hbs hrest
       have HBS := Lib.hid hbs
       have HREST := Lib.hid hrest
       have HLK := Lib.hid hLK
       unfold SubM.args at HBS
       clear hbs hrest hLK
       obtain ⟨d0, d1, d2, d3, d4, d5⟩ := six_cells S1.out
       go_wp2_with fail
       go_region
       go_wp2_with fail
       go_region
       go_wp2_with fail
       refine (HBS.out _ B1.out.drew.drew).mono ?_
       rintro e w2 ⟨rfl, hb2⟩
       obtain ⟨Z, hZ⟩ : ∃ Z, Z = w2.alloc (.cells #[.bool lw, .bool lo, .int .i64 ll, .int .i64 lm] 73) := ⟨_, rfl⟩
       have BZ : Hid (Below w.heap.size w Z) := hZ ▸ below_alloc (below_then B1.out.drew.drew hb2) _
       have SZ : Hid (Z.heap[w.heap.size]? = some (.cells #[.int .i64 m.s.session, .int .i64 m.s.seq, .int .i64 m.s.snap, .slice m.ra m.s.reads.length m.rc, .slice m.sa m.s.spans.length m.sc, .slice m.wa m.s.writes.length m.wc] 26 (0, 0))) := hZ ▸ alloc_keep ((hb2.block _ (lt_of_block S1.out)).trans S1.out) _
       have RZ : Hid (Z.heap[w.heap.size + 1]? = some (.cells #[.int .i64 0, .int .i64 0] 35 (0, 0))) := hZ ▸ alloc_keep ((hb2.block _ (lt_of_block R1.out)).trans R1.out) _
       have LZ : Hid (Z.heap[w2.heap.size]? = some (.cells #[.bool lw, .bool lo, .int .i64 ll, .int .i64 lm] 73 (0, 0))) := hZ ▸ heap_alloc_new w2 _
       obtain ⟨L, hL⟩ : ∃ L, L = w2.heap.size := ⟨_, rfl⟩
       have HL := Lib.hid hL
       have hLg : w.heap.size + 2 ≤ L := by have := hb2.size; have := lt_of_block R1.out; rw [hL]; simp only [size_drew] at *; omega
       rw [← hL] at LZ
       clear hb2 d0 d1 d2 d3 d4 d5 q0 q2 q3 s2 hL
       go_upto_region 11 with fail
       rw [← hZ, ← HL.out]
       clear hZ HL B1 S1 R1
       obtain ⟨l0, l1, l2, l3⟩ := (four_cells LZ.out).1
       cases lw with
       | true =>
         have hrb := two_cells RZ.out
         obtain ⟨v0, v1, f0, f1⟩ := hrb
         go_wp2_with fail
         refine bodyPost_ret (results_cell Tryz.results9 rfl (load_verdict (set2 RZ.out (.int .i64 111) (.int .i64 0)))) rfl (dec_refuse HC.out (below_set (below_set BZ.out _ (by omega)) _ (by omega)) (by decide) ?_)
         rw [HREST.out]
         simp
       | false =>
         obtain ⟨D, hD⟩ : ∃ D, D = dangerP ⟨false, lo, ll, lm⟩ := ⟨_, rfl⟩
         have HREST2 : Hid (refuseP c m.s = if D then 112 else 0) := by show _ = _; rw [HREST.out, hD]; rfl
         have HD : Hid (D = (lo || (decide (0 < ll) && decide (0 < lm) && decide (ll ≤ lm)))) := hD
         clear HREST hD
         go_upto_region 13 with fail
         go_cut [46] (fun s46 wx => s46 = .bool D ∧ Z = wx)
         case first =>
          cases lo with
          | true =>
            have HD2 : Hid (D = true) := by show _ = _; rw [HD.out]; rfl
            clear HD
            go_wp2_with fail
            go_meet
            exact ⟨by rw [HD2.out], rfl⟩
          | false =>
            by_cases h4 : 0 < ll
            · by_cases h5 : 0 < lm
              · by_cases h6 : ll ≤ lm
                · have HD2 : Hid (D = true) := by show _ = _; rw [HD.out, decide_eq_true h4, decide_eq_true h5, decide_eq_true h6]; rfl
                  clear HD
                  go_wp2_with fail
                  go_meet
                  exact ⟨by rw [HD2.out], rfl⟩
                · have HD2 : Hid (D = false) := by show _ = _; rw [HD.out, decide_eq_false h6]; simp
                  clear HD
                  go_wp2_with fail
                  go_meet
                  exact ⟨by rw [HD2.out], rfl⟩
              · have HD2 : Hid (D = false) := by show _ = _; rw [HD.out, decide_eq_false h5]; simp
                clear HD
                go_wp2_with fail
                go_meet
                exact ⟨by rw [HD2.out], rfl⟩
            · have HD2 : Hid (D = false) := by show _ = _; rw [HD.out, decide_eq_false h4]; simp
              clear HD
              go_wp2_with fail
              go_meet
              exact ⟨by rw [HD2.out], rfl⟩
         case rest =>
         obtain ⟨rfl, rfl⟩ := hcut
         cases D with
         | true =>
           have hrb := two_cells RZ.out
           obtain ⟨v0, v1, f0, f1⟩ := hrb
           go_wp2_with fail
           refine bodyPost_ret (results_cell Tryz.results9 rfl (load_verdict (set2 RZ.out (.int .i64 112) (.int .i64 0)))) rfl (dec_refuse HC.out (below_set (below_set BZ.out _ (by omega)) _ (by omega)) (by decide) ?_)
           rw [HREST2.out]
           simp
         | false =>
           have HREF : Hid (refuseP c m.s = 0) := HREST2.out
           clear HREST2 HD l0 l1 l3
           -- it commits: its colour, and the count
           have hY1 : w.heap.size + 2 ≤ Z.heap.size := by have := lt_of_block RZ.out; have := lt_of_block LZ.out; omega
           have hc0 := chg_tint (κ := κ) (i := k + 10) BZ.out
           have hRc : tint w κ (k + 10) (w.heap.size + 1) = k + 10 := tint_new (by omega)
           obtain ⟨κ0, hκ0⟩ : ∃ κ0, κ0 = tint w κ (k + 10) := ⟨_, rfl⟩
           rw [← hκ0] at hc0 hRc
           have hCZ := HC.out.chg hc0 (fun _ h => h.elim)
           obtain ⟨hC1, hch1⟩ := hCZ.count (c.count + 1)
           have hAw : A < w.heap.size := by
            obtain ⟨_, _, _, _, _, _, _, h0, _⟩ := HC.out
            exact lt_of_block h0
           have hccells := hCZ.cells
           obtain ⟨_, q2, _, g2, _⟩ := hccells
           have hclt : c.count < 1099511627776 := by omega
           have hch0 : Chg (fun i => k ≤ i ∧ i ≤ k + 9) κ κ0 w Z := hc0.mono fun _ h => h.elim
           have hm1 := HM.out.chg HMA.out (hch0.trans (hch1.mono fun i hi => by omega)) (fun _ h => h)
           have HCH1 := Lib.hid (hch0.trans (hch1.mono fun i hi => by omega))
           have HC1 := Lib.hid hC1
           have HM1 := Lib.hid hm1
           have HRC := Lib.hid hRc
           have HK0 := Lib.hid hκ0
           clear hκ0 hc0 hRc hCZ hC1 hch1 hch0 hm1
           go_upto_region 16 with fail
           obtain ⟨W1, hW1⟩ : ∃ W1, W1 = Z.setCell ⟨A, 2, none⟩ (.int .i64 (c.count + 1)) := ⟨_, rfl⟩
           have S1 : Hid (W1.heap[w.heap.size]? = some (.cells #[.int .i64 m.s.session, .int .i64 m.s.seq, .int .i64 m.s.snap, .slice m.ra m.s.reads.length m.rc, .slice m.sa m.s.spans.length m.sc, .slice m.wa m.s.writes.length m.wc] 26 (0, 0))) := hW1 ▸ set_far SZ.out (by omega)
           have R1 : Hid (W1.heap[w.heap.size + 1]? = some (.cells #[.int .i64 0, .int .i64 0] 35 (0, 0))) := hW1 ▸ set_far RZ.out (by omega)
           have L1 : Hid (W1.heap[L]? = some (.cells #[.bool false, .bool lo, .int .i64 ll, .int .i64 lm] 73 (0, 0))) := hW1 ▸ set_far LZ.out (by omega)
           rw [← hW1] at HCH1 HC1 HM1 ⊢
           clear hW1 q2 g2 l2 SZ RZ LZ BZ
           obtain ⟨N1, N2, N3, N4, a, n, cap, hA1, hcolA, t1, t2, t3, t4, hrecs⟩ := HC1.out
           have hrl := hrecs.1
           obtain ⟨base, hbase, hown⟩ := hrecs.2.1
           have hn33 : n ≤ 32 := by have h1 := HOK.out.len; have h2 := HOK.out.keep.2; simp only at hrl; omega
           have hgw : ∀ g, Value.ownBlock (.slice a n cap) = some g → g < w.heap.size := fun g hg => by
            rcases Nat.lt_or_ge g w.heap.size with h | h
            · exact h
            · have hck := hrecs.2.2.1 g hg
              rw [HK0.out, tint_new h] at hck
              omega
           have hgA : Value.ownBlock (.slice a n cap) ≠ some A := fun h => by have := hrecs.2.2.1 A h; rw [hcolA] at this; omega
           obtain ⟨i0, hi, hz0, hz1, hz2⟩ := info_parts info_rec
           obtain ⟨_, _, A2, _, A4, _⟩ := nine_cells (show W1.heap[A]? = some (.cells #[_, _, _, _, _, _, _, _, _] _ _) from hA1)
           have hkeep : ∀ Zw : World, (∃ C, Zw.heap[A]? = some (.cells C 70 (0, 0)) ∧ C[2]? = some (.int .i64 (c.count + 1))) → Zw.heap[w.heap.size]? = some (.cells #[.int .i64 m.s.session, .int .i64 m.s.seq, .int .i64 m.s.snap, .slice m.ra m.s.reads.length m.rc, .slice m.sa m.s.spans.length m.sc, .slice m.wa m.s.writes.length m.wc] 26 (0, 0)) → Zw.heap[L]? = some (.cells #[.bool false, .bool lo, .int .i64 ll, .int .i64 lm] 73 (0, 0)) → (fun w' : World => w'.cell? ⟨A, 2, none⟩ = some (.int .i64 (c.count + 1)) ∧ w'.cell? ⟨w.heap.size, 0, none⟩ = some (.int .i64 m.s.session) ∧ w'.cell? ⟨w.heap.size, 1, none⟩ = some (.int .i64 m.s.seq) ∧ w'.cell? ⟨w.heap.size, 2, none⟩ = some (.int .i64 m.s.snap) ∧ w'.cell? ⟨w.heap.size, 3, none⟩ = some (.slice m.ra m.s.reads.length m.rc) ∧ w'.cell? ⟨w.heap.size, 4, none⟩ = some (.slice m.sa m.s.spans.length m.sc) ∧ w'.cell? ⟨w.heap.size, 5, none⟩ = some (.slice m.wa m.s.writes.length m.wc) ∧ w'.cell? ⟨L, 2, none⟩ = some (.int .i64 ll)) Zw := fun Zw hA hB hL => by
            obtain ⟨C, hC, h2⟩ := hA
            obtain ⟨c0, c1, c2, c3, c4, c5⟩ := six_cells hB
            exact ⟨by simp only [World.cell?, hC]; exact h2, c0, c1, c2, c3, c4, c5, (four_cells hL).1.2.2.1⟩
           have HKEEP := Lib.hid hkeep
           have HA1 := Lib.hid hA1
           have HT := Lib.hid (And.intro hcolA (And.intro t1 (And.intro t2 (And.intro t3 t4))))
           have HREC := Lib.hid hrecs
           have HOWN := Lib.hid hown
           have HGW := Lib.hid hgw
           have HGA := Lib.hid hgA
           have hW1w : w.heap.size + 2 ≤ W1.heap.size := by have := lt_of_block R1.out; have := lt_of_block L1.out; omega
           clear hkeep hA1 hcolA t1 t2 t3 t4 hrecs hown hgw hgA A2 hrl
           go_cut [] (fun wx => ∃ (κ1 : Nat → Nat) (m' : SubM), Hid (m'.s = m.s) ∧ Hid (Chg (fun i => k ≤ i ∧ i ≤ k + 9) κ κ1 w wx) ∧ Hid (CertAt wx κ1 k A (moreP c m' (decide (0 < ll)))) ∧ Hid (wx.heap[w.heap.size + 1]? = some (.cells #[.int .i64 0, .int .i64 0] 35 (0, 0))) ∧ Hid (κ1 (w.heap.size + 1) = k + 10))
           case first =>
            refine wp_region_noPanic ?_
            refine wp_region_held_drew (S := (fun w' => w'.cell? ⟨A, 2, none⟩ = some (.int .i64 (c.count + 1)) ∧ w'.cell? ⟨w.heap.size, 0, none⟩ = some (.int .i64 m.s.session) ∧ w'.cell? ⟨w.heap.size, 1, none⟩ = some (.int .i64 m.s.seq) ∧ w'.cell? ⟨w.heap.size, 2, none⟩ = some (.int .i64 m.s.snap) ∧ w'.cell? ⟨w.heap.size, 3, none⟩ = some (.slice m.ra m.s.reads.length m.rc) ∧ w'.cell? ⟨w.heap.size, 4, none⟩ = some (.slice m.sa m.s.spans.length m.sc) ∧ w'.cell? ⟨w.heap.size, 5, none⟩ = some (.slice m.wa m.s.writes.length m.wc) ∧ w'.cell? ⟨L, 2, none⟩ = some (.int .i64 ll))) (by kernel_rfl) ?_ (fun hHeld0 => ?_)
            · first | exact HKEEP.out _ ⟨_, HA1.out, rfl⟩ S1.out L1.out | exact HKEEP.out _ ⟨_, A5.out, rfl⟩ S5.out L5.out | exact HKEEP.out _ ⟨_, alloc_keep A5.out _, rfl⟩ (alloc_keep S5.out _) (alloc_keep L5.out _) | exact HKEEP.out _ ⟨_, AY.out, rfl⟩ SY.out LY.out | exact HKEEP.out _ ⟨_, A6.out, rfl⟩ S6.out L6.out | exact HKEEP.out _ ⟨_, set_block (i := 4) A6.out _, rfl⟩ (set_far S6.out (by omega)) (set_far L6.out (by omega))
            refine wu 0 rfl ?_
            refine wu 1 rfl ?_
            refine wu 2 rfl ?_
            refine wu 3 rfl ?_
            refine wu 5 rfl ?_
            refine wu 6 rfl ?_
            refine wu 7 rfl ?_
            refine wu 8 rfl ?_
            refine wu 9 rfl ?_
            refine wu 12 rfl ?_
            refine wu 13 rfl ?_
            refine wu 14 rfl ?_
            refine wz 4 10 rfl (fun K hK => ?_) rfl fun K hK => ?_
            · skip
              go_simp
              refine hK.out _ _ ?_ (fun hHeld1 => ?_)
              · first | exact HKEEP.out _ ⟨_, HA1.out, rfl⟩ S1.out L1.out | exact HKEEP.out _ ⟨_, A5.out, rfl⟩ S5.out L5.out | exact HKEEP.out _ ⟨_, alloc_keep A5.out _, rfl⟩ (alloc_keep S5.out _) (alloc_keep L5.out _) | exact HKEEP.out _ ⟨_, AY.out, rfl⟩ SY.out LY.out | exact HKEEP.out _ ⟨_, A6.out, rfl⟩ S6.out L6.out | exact HKEEP.out _ ⟨_, set_block (i := 4) A6.out _, rfl⟩ (set_far S6.out (by omega)) (set_far L6.out (by omega))
              clear hK K hHeld0
              try simp only [Act.put, List.setIfInBounds_toArray, List.set]
              refine wy 10 rfl fun K hK => ?_
              go_simp
              refine (cloneC_any m HR.out _ (HM1.out.1.below (Below.refl _ _).drew)).mono ?_
              rintro e w5 ⟨⟨ms5, ra5, rc5, sa5, sc5, wa5, wc5⟩, hs5, rfl, hmok5, hb5, hra5, hsa5, hwa5⟩
              simp only at hs5
              subst hs5
              dsimp only [SubM.args]
              have A5 : Hid (w5.heap[A]? = _) := (hb5.block _ (lt_of_block HA1.out)).trans HA1.out
              have S5 : Hid (w5.heap[w.heap.size]? = _) := (hb5.block _ (lt_of_block S1.out)).trans S1.out
              have L5 : Hid (w5.heap[L]? = _) := (hb5.block _ (lt_of_block L1.out)).trans L1.out
              have R5 : Hid (w5.heap[w.heap.size + 1]? = _) := (hb5.block _ (lt_of_block R1.out)).trans R1.out
              have A45 := (nine_cells (show w5.heap[A]? = some (.cells #[_, _, _, _, _, _, _, _, _] _ _) from A5.out)).2.2.2.2.1
              have HB5 : Hid (Below W1.heap.size W1 w5) := below_then (Below.refl _ _).drew hb5
              have hs5 := hb5.size
              have HMOK5 := Lib.hid hmok5
              have HRA5 := Lib.hid hra5
              have HSA5 := Lib.hid hsa5
              have HWA5 := Lib.hid hwa5
              clear hb5 hmok5 hra5 hsa5 hwa5
              go_wp2_with fail
              refine hK.out _ _ ?_ (fun hHeld2 => ?_)
              · first | exact HKEEP.out _ ⟨_, HA1.out, rfl⟩ S1.out L1.out | exact HKEEP.out _ ⟨_, A5.out, rfl⟩ S5.out L5.out | exact HKEEP.out _ ⟨_, alloc_keep A5.out _, rfl⟩ (alloc_keep S5.out _) (alloc_keep L5.out _) | exact HKEEP.out _ ⟨_, AY.out, rfl⟩ SY.out LY.out | exact HKEEP.out _ ⟨_, A6.out, rfl⟩ S6.out L6.out | exact HKEEP.out _ ⟨_, set_block (i := 4) A6.out _, rfl⟩ (set_far S6.out (by omega)) (set_far L6.out (by omega))
              clear hK K hHeld1
              try simp only [Act.put, List.setIfInBounds_toArray, List.set]
              refine wu 11 rfl ?_
              refine wu 15 rfl ?_
              refine wy 16 rfl fun K hK => ?_
              go_simp
              refine hK.out _ _ ?_ (fun hHeld3 => ?_)
              · first | exact HKEEP.out _ ⟨_, HA1.out, rfl⟩ S1.out L1.out | exact HKEEP.out _ ⟨_, A5.out, rfl⟩ S5.out L5.out | exact HKEEP.out _ ⟨_, alloc_keep A5.out _, rfl⟩ (alloc_keep S5.out _) (alloc_keep L5.out _) | exact HKEEP.out _ ⟨_, AY.out, rfl⟩ SY.out LY.out | exact HKEEP.out _ ⟨_, A6.out, rfl⟩ S6.out L6.out | exact HKEEP.out _ ⟨_, set_block (i := 4) A6.out _, rfl⟩ (set_far S6.out (by omega)) (set_far L6.out (by omega))
              clear hK K hHeld2
              try simp only [Act.put, List.setIfInBounds_toArray, List.set]
              obtain ⟨Yb, hYb⟩ : ∃ Yb, Yb = w5.alloc (.cells #[.int .i64 (c.count + 1), .int .i64 m.s.session, .int .i64 m.s.seq, .int .i64 m.s.snap, .slice ra5 m.s.reads.length rc5, .slice sa5 m.s.spans.length sc5, .slice wa5 m.s.writes.length wc5, .bool (decide (0 < ll))] 77) := ⟨_, rfl⟩
              have HBY : Hid (Below w5.heap.size w5 Yb) := hYb ▸ below_alloc (Below.refl _ _) _
              have AY : Hid (Yb.heap[A]? = _) := hYb ▸ alloc_keep A5.out _
              have SY : Hid (Yb.heap[w.heap.size]? = _) := hYb ▸ alloc_keep S5.out _
              have LY : Hid (Yb.heap[L]? = _) := hYb ▸ alloc_keep L5.out _
              have RY : Hid (Yb.heap[w.heap.size + 1]? = _) := hYb ▸ alloc_keep R5.out _
              have AY4 := (nine_cells (show Yb.heap[A]? = some (.cells #[_, _, _, _, _, _, _, _, _] _ _) from AY.out)).2.2.2.2.1
              have hownY := own_below (own_below HOWN.out HB5.out (Nat.le_refl _)) HBY.out (Nat.le_refl _)
              have hnews : 0 < 1 → ∃ ad, (some ⟨w5.heap.size, 0, none⟩ : Option Addr) = some ad ∧ ∀ j u, (RecV.cells ⟨c.count + 1, ⟨m.s, ra5, rc5, sa5, sc5, wa5, wc5⟩, decide (0 < ll)⟩)[j]? = some u → Yb.cell? (ad.add j) = some u := by rw [hYb]; exact (RowN.newH _ _ _ 8 1 _ _ rfl rfl rfl).news
              obtain ⟨ao, cp, w6, hq, hown6, hg6, hat6⟩ := run_append_row (P := Tryz.prog) Yb base 68 68 77 i0 _ 8 112 Tryz.underlying68 hi hz0 hz1 hz2 rfl (by decide) a n cap _ hownY (some ⟨w5.heap.size, 0, none⟩) 1 1 _ rfl hnews (fun h => by cases h) (by have := cells_oneR [⟨c.count + 1, ⟨m.s, ra5, rc5, sa5, sc5, wa5, wc5⟩, decide (0 < ll)⟩]; simpa using this) (by simp only [maxLen]; omega) (by omega) (Nat.le_trans hbase (Nat.le_trans HB5.out.size HBY.out.size))
              have hYs := HBY.out.size
              have A6 : Hid (w6.heap[A]? = _) := (hg6.block A (lt_of_block AY.out) (fun e => HGA.out e.symm)).trans AY.out
              have S6 : Hid (w6.heap[w.heap.size]? = _) := (hg6.block _ (lt_of_block SY.out) (fun e => by have := HGW.out _ e.symm; omega)).trans SY.out
              have L6 : Hid (w6.heap[L]? = _) := (hg6.block _ (lt_of_block LY.out) (fun e => by have := HGW.out _ e.symm; omega)).trans LY.out
              have R6 : Hid (w6.heap[w.heap.size + 1]? = _) := (hg6.block _ (lt_of_block RY.out) (fun e => by have := HGW.out _ e.symm; omega)).trans RY.out
              have F6 : w6.frozen? ⟨A, 4, none⟩ = false := by have h := A6.out; simp [World.frozen?, h]
              have A64 := (nine_cells (show w6.heap[A]? = some (.cells #[_, _, _, _, _, _, _, _, _] _ _) from A6.out)).2.2.2.2.1
              have HPUSH := Lib.hid (cert_push (m := ⟨m.s, ra5, rc5, sa5, sc5, wa5, wc5⟩) (num := c.count + 1) (out := decide (0 < ll)) HA1.out HT.out.1 HT.out.2.1 HT.out.2.2.1 HT.out.2.2.2.1 HT.out.2.2.2.2 HREC.out HB5.out HMOK5.out HRA5.out HSA5.out HWA5.out HBY.out hbase hown6 hg6 hat6)
              rw [← hYb]
              clear hownY hnews hown6 hg6 hat6 hYb
              refine wy 17 rfl fun K hK => ?_
              refine step_append_run rfl (.tmp 78) (.tmp 90) 68 rfl (by simp [Act.eval]) (by simp [Act.eval]) hq ?_
              refine hK.out _ _ ?_ (fun hHeld4 => ?_)
              · first | exact HKEEP.out _ ⟨_, HA1.out, rfl⟩ S1.out L1.out | exact HKEEP.out _ ⟨_, A5.out, rfl⟩ S5.out L5.out | exact HKEEP.out _ ⟨_, alloc_keep A5.out _, rfl⟩ (alloc_keep S5.out _) (alloc_keep L5.out _) | exact HKEEP.out _ ⟨_, AY.out, rfl⟩ SY.out LY.out | exact HKEEP.out _ ⟨_, A6.out, rfl⟩ S6.out L6.out | exact HKEEP.out _ ⟨_, set_block (i := 4) A6.out _, rfl⟩ (set_far S6.out (by omega)) (set_far L6.out (by omega))
              clear hK K hHeld3
              try simp only [Act.put, List.setIfInBounds_toArray]
              refine wu 18 rfl ?_
              refine wu 19 rfl ?_
              refine wy 20 rfl fun K hK => ?_
              go_simp
              refine hK.out _ _ ?_ (fun hHeld5 => ?_)
              · first | exact HKEEP.out _ ⟨_, HA1.out, rfl⟩ S1.out L1.out | exact HKEEP.out _ ⟨_, A5.out, rfl⟩ S5.out L5.out | exact HKEEP.out _ ⟨_, alloc_keep A5.out _, rfl⟩ (alloc_keep S5.out _) (alloc_keep L5.out _) | exact HKEEP.out _ ⟨_, AY.out, rfl⟩ SY.out LY.out | exact HKEEP.out _ ⟨_, A6.out, rfl⟩ S6.out L6.out | exact HKEEP.out _ ⟨_, set_block (i := 4) A6.out _, rfl⟩ (set_far S6.out (by omega)) (set_far L6.out (by omega))
              clear hK K hHeld4
              try simp only [Act.put, List.setIfInBounds_toArray, List.set]
              refine wpAnyH_done (by kernel_rfl) ?_ _
              refine NoPanic.normal ?_
              go_wp2_with fail
              go_meet
              obtain ⟨κ1, hc1, hC6, _⟩ := HPUSH.out
              exact ⟨κ1, ⟨m.s, ra5, rc5, sa5, sc5, wa5, wc5⟩, rfl, HCH1.out.trans (hc1.mono fun i hi => by omega), hC6, set_far R6.out (by omega), (hc1.paint _ (lt_of_block R1.out)).trans HRC.out⟩
            · skip
              go_simp
              refine (cloneC_any m HR.out _ (HM1.out.1.below (Below.refl _ _).drew)).mono ?_
              rintro e w5 ⟨⟨ms5, ra5, rc5, sa5, sc5, wa5, wc5⟩, hs5, rfl, hmok5, hb5, hra5, hsa5, hwa5⟩
              simp only at hs5
              subst hs5
              dsimp only [SubM.args]
              have A5 : Hid (w5.heap[A]? = _) := (hb5.block _ (lt_of_block HA1.out)).trans HA1.out
              have S5 : Hid (w5.heap[w.heap.size]? = _) := (hb5.block _ (lt_of_block S1.out)).trans S1.out
              have L5 : Hid (w5.heap[L]? = _) := (hb5.block _ (lt_of_block L1.out)).trans L1.out
              have R5 : Hid (w5.heap[w.heap.size + 1]? = _) := (hb5.block _ (lt_of_block R1.out)).trans R1.out
              have A45 := (nine_cells (show w5.heap[A]? = some (.cells #[_, _, _, _, _, _, _, _, _] _ _) from A5.out)).2.2.2.2.1
              have HB5 : Hid (Below W1.heap.size W1 w5) := below_then (Below.refl _ _).drew hb5
              have hs5 := hb5.size
              have HMOK5 := Lib.hid hmok5
              have HRA5 := Lib.hid hra5
              have HSA5 := Lib.hid hsa5
              have HWA5 := Lib.hid hwa5
              clear hb5 hmok5 hra5 hsa5 hwa5
              go_wp2_with fail
              refine hK.out _ _ ?_ (fun hHeld6 => ?_)
              · first | exact HKEEP.out _ ⟨_, HA1.out, rfl⟩ S1.out L1.out | exact HKEEP.out _ ⟨_, A5.out, rfl⟩ S5.out L5.out | exact HKEEP.out _ ⟨_, alloc_keep A5.out _, rfl⟩ (alloc_keep S5.out _) (alloc_keep L5.out _) | exact HKEEP.out _ ⟨_, AY.out, rfl⟩ SY.out LY.out | exact HKEEP.out _ ⟨_, A6.out, rfl⟩ S6.out L6.out | exact HKEEP.out _ ⟨_, set_block (i := 4) A6.out _, rfl⟩ (set_far S6.out (by omega)) (set_far L6.out (by omega))
              clear hK K hHeld0
              try simp only [Act.put, List.setIfInBounds_toArray, List.set]
              refine wu 11 rfl ?_
              refine wu 15 rfl ?_
              refine wz 4 16 rfl (fun K hK => ?_) rfl fun K hK => ?_
              · skip
                go_simp
                refine hK.out _ _ ?_ (fun hHeld7 => ?_)
                · first | exact HKEEP.out _ ⟨_, HA1.out, rfl⟩ S1.out L1.out | exact HKEEP.out _ ⟨_, A5.out, rfl⟩ S5.out L5.out | exact HKEEP.out _ ⟨_, alloc_keep A5.out _, rfl⟩ (alloc_keep S5.out _) (alloc_keep L5.out _) | exact HKEEP.out _ ⟨_, AY.out, rfl⟩ SY.out LY.out | exact HKEEP.out _ ⟨_, A6.out, rfl⟩ S6.out L6.out | exact HKEEP.out _ ⟨_, set_block (i := 4) A6.out _, rfl⟩ (set_far S6.out (by omega)) (set_far L6.out (by omega))
                clear hK K hHeld6
                try simp only [Act.put, List.setIfInBounds_toArray, List.set]
                refine wy 16 rfl fun K hK => ?_
                go_simp
                refine hK.out _ _ ?_ (fun hHeld8 => ?_)
                · first | exact HKEEP.out _ ⟨_, HA1.out, rfl⟩ S1.out L1.out | exact HKEEP.out _ ⟨_, A5.out, rfl⟩ S5.out L5.out | exact HKEEP.out _ ⟨_, alloc_keep A5.out _, rfl⟩ (alloc_keep S5.out _) (alloc_keep L5.out _) | exact HKEEP.out _ ⟨_, AY.out, rfl⟩ SY.out LY.out | exact HKEEP.out _ ⟨_, A6.out, rfl⟩ S6.out L6.out | exact HKEEP.out _ ⟨_, set_block (i := 4) A6.out _, rfl⟩ (set_far S6.out (by omega)) (set_far L6.out (by omega))
                clear hK K hHeld7
                try simp only [Act.put, List.setIfInBounds_toArray, List.set]
                obtain ⟨Yb, hYb⟩ : ∃ Yb, Yb = w5.alloc (.cells #[.int .i64 (c.count + 1), .int .i64 m.s.session, .int .i64 m.s.seq, .int .i64 m.s.snap, .slice ra5 m.s.reads.length rc5, .slice sa5 m.s.spans.length sc5, .slice wa5 m.s.writes.length wc5, .bool (decide (0 < ll))] 77) := ⟨_, rfl⟩
                have HBY : Hid (Below w5.heap.size w5 Yb) := hYb ▸ below_alloc (Below.refl _ _) _
                have AY : Hid (Yb.heap[A]? = _) := hYb ▸ alloc_keep A5.out _
                have SY : Hid (Yb.heap[w.heap.size]? = _) := hYb ▸ alloc_keep S5.out _
                have LY : Hid (Yb.heap[L]? = _) := hYb ▸ alloc_keep L5.out _
                have RY : Hid (Yb.heap[w.heap.size + 1]? = _) := hYb ▸ alloc_keep R5.out _
                have AY4 := (nine_cells (show Yb.heap[A]? = some (.cells #[_, _, _, _, _, _, _, _, _] _ _) from AY.out)).2.2.2.2.1
                have hownY := own_below (own_below HOWN.out HB5.out (Nat.le_refl _)) HBY.out (Nat.le_refl _)
                have hnews : 0 < 1 → ∃ ad, (some ⟨w5.heap.size, 0, none⟩ : Option Addr) = some ad ∧ ∀ j u, (RecV.cells ⟨c.count + 1, ⟨m.s, ra5, rc5, sa5, sc5, wa5, wc5⟩, decide (0 < ll)⟩)[j]? = some u → Yb.cell? (ad.add j) = some u := by rw [hYb]; exact (RowN.newH _ _ _ 8 1 _ _ rfl rfl rfl).news
                obtain ⟨ao, cp, w6, hq, hown6, hg6, hat6⟩ := run_append_row (P := Tryz.prog) Yb base 68 68 77 i0 _ 8 112 Tryz.underlying68 hi hz0 hz1 hz2 rfl (by decide) a n cap _ hownY (some ⟨w5.heap.size, 0, none⟩) 1 1 _ rfl hnews (fun h => by cases h) (by have := cells_oneR [⟨c.count + 1, ⟨m.s, ra5, rc5, sa5, sc5, wa5, wc5⟩, decide (0 < ll)⟩]; simpa using this) (by simp only [maxLen]; omega) (by omega) (Nat.le_trans hbase (Nat.le_trans HB5.out.size HBY.out.size))
                have hYs := HBY.out.size
                have A6 : Hid (w6.heap[A]? = _) := (hg6.block A (lt_of_block AY.out) (fun e => HGA.out e.symm)).trans AY.out
                have S6 : Hid (w6.heap[w.heap.size]? = _) := (hg6.block _ (lt_of_block SY.out) (fun e => by have := HGW.out _ e.symm; omega)).trans SY.out
                have L6 : Hid (w6.heap[L]? = _) := (hg6.block _ (lt_of_block LY.out) (fun e => by have := HGW.out _ e.symm; omega)).trans LY.out
                have R6 : Hid (w6.heap[w.heap.size + 1]? = _) := (hg6.block _ (lt_of_block RY.out) (fun e => by have := HGW.out _ e.symm; omega)).trans RY.out
                have F6 : w6.frozen? ⟨A, 4, none⟩ = false := by have h := A6.out; simp [World.frozen?, h]
                have A64 := (nine_cells (show w6.heap[A]? = some (.cells #[_, _, _, _, _, _, _, _, _] _ _) from A6.out)).2.2.2.2.1
                have HPUSH := Lib.hid (cert_push (m := ⟨m.s, ra5, rc5, sa5, sc5, wa5, wc5⟩) (num := c.count + 1) (out := decide (0 < ll)) HA1.out HT.out.1 HT.out.2.1 HT.out.2.2.1 HT.out.2.2.2.1 HT.out.2.2.2.2 HREC.out HB5.out HMOK5.out HRA5.out HSA5.out HWA5.out HBY.out hbase hown6 hg6 hat6)
                rw [← hYb]
                clear hownY hnews hown6 hg6 hat6 hYb
                refine wy 17 rfl fun K hK => ?_
                refine step_append_run rfl (.tmp 78) (.tmp 90) 68 rfl (by simp [Act.eval]) (by simp [Act.eval]) hq ?_
                refine hK.out _ _ ?_ (fun hHeld9 => ?_)
                · first | exact HKEEP.out _ ⟨_, HA1.out, rfl⟩ S1.out L1.out | exact HKEEP.out _ ⟨_, A5.out, rfl⟩ S5.out L5.out | exact HKEEP.out _ ⟨_, alloc_keep A5.out _, rfl⟩ (alloc_keep S5.out _) (alloc_keep L5.out _) | exact HKEEP.out _ ⟨_, AY.out, rfl⟩ SY.out LY.out | exact HKEEP.out _ ⟨_, A6.out, rfl⟩ S6.out L6.out | exact HKEEP.out _ ⟨_, set_block (i := 4) A6.out _, rfl⟩ (set_far S6.out (by omega)) (set_far L6.out (by omega))
                clear hK K hHeld8
                try simp only [Act.put, List.setIfInBounds_toArray]
                refine wu 18 rfl ?_
                refine wu 19 rfl ?_
                refine wy 20 rfl fun K hK => ?_
                go_simp
                refine hK.out _ _ ?_ (fun hHeld10 => ?_)
                · first | exact HKEEP.out _ ⟨_, HA1.out, rfl⟩ S1.out L1.out | exact HKEEP.out _ ⟨_, A5.out, rfl⟩ S5.out L5.out | exact HKEEP.out _ ⟨_, alloc_keep A5.out _, rfl⟩ (alloc_keep S5.out _) (alloc_keep L5.out _) | exact HKEEP.out _ ⟨_, AY.out, rfl⟩ SY.out LY.out | exact HKEEP.out _ ⟨_, A6.out, rfl⟩ S6.out L6.out | exact HKEEP.out _ ⟨_, set_block (i := 4) A6.out _, rfl⟩ (set_far S6.out (by omega)) (set_far L6.out (by omega))
                clear hK K hHeld9
                try simp only [Act.put, List.setIfInBounds_toArray, List.set]
                refine wpAnyH_done (by kernel_rfl) ?_ _
                refine NoPanic.normal ?_
                go_wp2_with fail
                go_meet
                obtain ⟨κ1, hc1, hC6, _⟩ := HPUSH.out
                exact ⟨κ1, ⟨m.s, ra5, rc5, sa5, sc5, wa5, wc5⟩, rfl, HCH1.out.trans (hc1.mono fun i hi => by omega), hC6, set_far R6.out (by omega), (hc1.paint _ (lt_of_block R1.out)).trans HRC.out⟩
              · skip
                go_simp
                refine hK.out _ _ ?_ (fun hHeld11 => ?_)
                · first | exact HKEEP.out _ ⟨_, HA1.out, rfl⟩ S1.out L1.out | exact HKEEP.out _ ⟨_, A5.out, rfl⟩ S5.out L5.out | exact HKEEP.out _ ⟨_, alloc_keep A5.out _, rfl⟩ (alloc_keep S5.out _) (alloc_keep L5.out _) | exact HKEEP.out _ ⟨_, AY.out, rfl⟩ SY.out LY.out | exact HKEEP.out _ ⟨_, A6.out, rfl⟩ S6.out L6.out | exact HKEEP.out _ ⟨_, set_block (i := 4) A6.out _, rfl⟩ (set_far S6.out (by omega)) (set_far L6.out (by omega))
                clear hK K hHeld6
                try simp only [Act.put, List.setIfInBounds_toArray, List.set]
                obtain ⟨Yb, hYb⟩ : ∃ Yb, Yb = w5.alloc (.cells #[.int .i64 (c.count + 1), .int .i64 m.s.session, .int .i64 m.s.seq, .int .i64 m.s.snap, .slice ra5 m.s.reads.length rc5, .slice sa5 m.s.spans.length sc5, .slice wa5 m.s.writes.length wc5, .bool (decide (0 < ll))] 77) := ⟨_, rfl⟩
                have HBY : Hid (Below w5.heap.size w5 Yb) := hYb ▸ below_alloc (Below.refl _ _) _
                have AY : Hid (Yb.heap[A]? = _) := hYb ▸ alloc_keep A5.out _
                have SY : Hid (Yb.heap[w.heap.size]? = _) := hYb ▸ alloc_keep S5.out _
                have LY : Hid (Yb.heap[L]? = _) := hYb ▸ alloc_keep L5.out _
                have RY : Hid (Yb.heap[w.heap.size + 1]? = _) := hYb ▸ alloc_keep R5.out _
                have AY4 := (nine_cells (show Yb.heap[A]? = some (.cells #[_, _, _, _, _, _, _, _, _] _ _) from AY.out)).2.2.2.2.1
                have hownY := own_below (own_below HOWN.out HB5.out (Nat.le_refl _)) HBY.out (Nat.le_refl _)
                have hnews : 0 < 1 → ∃ ad, (some ⟨w5.heap.size, 0, none⟩ : Option Addr) = some ad ∧ ∀ j u, (RecV.cells ⟨c.count + 1, ⟨m.s, ra5, rc5, sa5, sc5, wa5, wc5⟩, decide (0 < ll)⟩)[j]? = some u → Yb.cell? (ad.add j) = some u := by rw [hYb]; exact (RowN.newH _ _ _ 8 1 _ _ rfl rfl rfl).news
                obtain ⟨ao, cp, w6, hq, hown6, hg6, hat6⟩ := run_append_row (P := Tryz.prog) Yb base 68 68 77 i0 _ 8 112 Tryz.underlying68 hi hz0 hz1 hz2 rfl (by decide) a n cap _ hownY (some ⟨w5.heap.size, 0, none⟩) 1 1 _ rfl hnews (fun h => by cases h) (by have := cells_oneR [⟨c.count + 1, ⟨m.s, ra5, rc5, sa5, sc5, wa5, wc5⟩, decide (0 < ll)⟩]; simpa using this) (by simp only [maxLen]; omega) (by omega) (Nat.le_trans hbase (Nat.le_trans HB5.out.size HBY.out.size))
                have hYs := HBY.out.size
                have A6 : Hid (w6.heap[A]? = _) := (hg6.block A (lt_of_block AY.out) (fun e => HGA.out e.symm)).trans AY.out
                have S6 : Hid (w6.heap[w.heap.size]? = _) := (hg6.block _ (lt_of_block SY.out) (fun e => by have := HGW.out _ e.symm; omega)).trans SY.out
                have L6 : Hid (w6.heap[L]? = _) := (hg6.block _ (lt_of_block LY.out) (fun e => by have := HGW.out _ e.symm; omega)).trans LY.out
                have R6 : Hid (w6.heap[w.heap.size + 1]? = _) := (hg6.block _ (lt_of_block RY.out) (fun e => by have := HGW.out _ e.symm; omega)).trans RY.out
                have F6 : w6.frozen? ⟨A, 4, none⟩ = false := by have h := A6.out; simp [World.frozen?, h]
                have A64 := (nine_cells (show w6.heap[A]? = some (.cells #[_, _, _, _, _, _, _, _, _] _ _) from A6.out)).2.2.2.2.1
                have HPUSH := Lib.hid (cert_push (m := ⟨m.s, ra5, rc5, sa5, sc5, wa5, wc5⟩) (num := c.count + 1) (out := decide (0 < ll)) HA1.out HT.out.1 HT.out.2.1 HT.out.2.2.1 HT.out.2.2.2.1 HT.out.2.2.2.2 HREC.out HB5.out HMOK5.out HRA5.out HSA5.out HWA5.out HBY.out hbase hown6 hg6 hat6)
                rw [← hYb]
                clear hownY hnews hown6 hg6 hat6 hYb
                refine wy 4 rfl fun K hK => ?_
                go_simp
                refine hK.out _ _ ?_ (fun hHeld12 => ?_)
                · first | exact HKEEP.out _ ⟨_, HA1.out, rfl⟩ S1.out L1.out | exact HKEEP.out _ ⟨_, A5.out, rfl⟩ S5.out L5.out | exact HKEEP.out _ ⟨_, alloc_keep A5.out _, rfl⟩ (alloc_keep S5.out _) (alloc_keep L5.out _) | exact HKEEP.out _ ⟨_, AY.out, rfl⟩ SY.out LY.out | exact HKEEP.out _ ⟨_, A6.out, rfl⟩ S6.out L6.out | exact HKEEP.out _ ⟨_, set_block (i := 4) A6.out _, rfl⟩ (set_far S6.out (by omega)) (set_far L6.out (by omega))
                clear hK K hHeld11
                try simp only [Act.put, List.setIfInBounds_toArray, List.set]
                refine wy 17 rfl fun K hK => ?_
                refine step_append_run rfl (.tmp 78) (.tmp 90) 68 rfl (by simp [Act.eval]) (by simp [Act.eval]) hq ?_
                refine hK.out _ _ ?_ (fun hHeld13 => ?_)
                · first | exact HKEEP.out _ ⟨_, HA1.out, rfl⟩ S1.out L1.out | exact HKEEP.out _ ⟨_, A5.out, rfl⟩ S5.out L5.out | exact HKEEP.out _ ⟨_, alloc_keep A5.out _, rfl⟩ (alloc_keep S5.out _) (alloc_keep L5.out _) | exact HKEEP.out _ ⟨_, AY.out, rfl⟩ SY.out LY.out | exact HKEEP.out _ ⟨_, A6.out, rfl⟩ S6.out L6.out | exact HKEEP.out _ ⟨_, set_block (i := 4) A6.out _, rfl⟩ (set_far S6.out (by omega)) (set_far L6.out (by omega))
                clear hK K hHeld12
                try simp only [Act.put, List.setIfInBounds_toArray]
                refine wu 18 rfl ?_
                refine wu 19 rfl ?_
                refine wy 20 rfl fun K hK => ?_
                go_simp
                refine hK.out _ _ ?_ (fun hHeld14 => ?_)
                · first | exact HKEEP.out _ ⟨_, HA1.out, rfl⟩ S1.out L1.out | exact HKEEP.out _ ⟨_, A5.out, rfl⟩ S5.out L5.out | exact HKEEP.out _ ⟨_, alloc_keep A5.out _, rfl⟩ (alloc_keep S5.out _) (alloc_keep L5.out _) | exact HKEEP.out _ ⟨_, AY.out, rfl⟩ SY.out LY.out | exact HKEEP.out _ ⟨_, A6.out, rfl⟩ S6.out L6.out | exact HKEEP.out _ ⟨_, set_block (i := 4) A6.out _, rfl⟩ (set_far S6.out (by omega)) (set_far L6.out (by omega))
                clear hK K hHeld13
                try simp only [Act.put, List.setIfInBounds_toArray, List.set]
                refine wpAnyH_done (by kernel_rfl) ?_ _
                refine NoPanic.normal ?_
                go_wp2_with fail
                go_meet
                obtain ⟨κ1, hc1, hC6, _⟩ := HPUSH.out
                exact ⟨κ1, ⟨m.s, ra5, rc5, sa5, sc5, wa5, wc5⟩, rfl, HCH1.out.trans (hc1.mono fun i hi => by omega), hC6, set_far R6.out (by omega), (hc1.paint _ (lt_of_block R1.out)).trans HRC.out⟩
           case rest =>
           obtain ⟨κ1, m', Hm', HCH2, HC2, R2, HRC2⟩ := hcut
           obtain ⟨W2, hW2⟩ : ∃ W2, W2 = wc := ⟨_, rfl⟩
           rw [← hW2] at HCH2 HC2 R2 ⊢
           clear hW2 HKEEP HA1 HT HREC HOWN HGW HGA S1 R1 L1 A4 HC1 HM1 HCH1 HK0 HRC
           obtain ⟨C1, hC1d⟩ : ∃ C1, C1 = moreP c m' (decide (0 < ll)) := ⟨_, rfl⟩
           rw [← hC1d] at HC2
           have hk1 : C1.keep = c.keep := by rw [hC1d]; rfl
           have hr1 : C1.recs = c.recs ++ [⟨c.count + 1, m', decide (0 < ll)⟩] := by rw [hC1d]; rfl
           have hco1 : C1.count = c.count + 1 := by rw [hC1d]; rfl
           have hs1 : SortedV C1.wrote ∧ SortedV C1.wroteOut ∧ SortedV C1.read ∧ SortedP C1.spans := by rw [hC1d]; exact ⟨HOK.out.wrote, HOK.out.wroteOut, HOK.out.read, HOK.out.spans⟩
           have HD1 := Lib.hid hC1d
           have HK1 := Lib.hid hk1
           have HR1 := Lib.hid hr1
           have HCO1 := Lib.hid hco1
           have HS1 := Lib.hid hs1
           obtain ⟨q0, _, _, _, _, a2, n2, cap2, q4, hr2⟩ := HC2.out.cells
           have HR2 := Lib.hid hr2
           have hn2 : n2 ≤ 33 := by have h1 := HOK.out.len; have h2 := HOK.out.keep.2; have h3 := hr2.1; rw [hr1, List.length_append, List.length_singleton] at h3; omega
           clear hC1d hk1 hr1 hco1 hs1 hr2
           obtain ⟨C2, hC2⟩ : ∃ C2, C2 = lessP C1 := ⟨_, rfl⟩
           have HD2 := Lib.hid hC2
           clear hC2
           go_upto_region 17 with fail
           obtain ⟨GT, hGT⟩ : ∃ GT, GT = decide (C1.keep < n2) := ⟨_, rfl⟩
           have HGT := Lib.hid hGT
           clear hGT
           go_cut [104] (fun s104 wx => s104 = .bool GT ∧ W2.drew = wx)
           case first =>
            go_region
            go_wp2_with fail
            go_meet
            exact ⟨by rw [HGT.out], rfl⟩
           case rest =>
           obtain ⟨rfl, rfl⟩ := hcut
           go_upto_if 104 with fail
           go_cut [] (fun wx => ∃ κ2, Hid (Chg (fun i => k ≤ i ∧ i ≤ k + 9) κ κ2 w wx) ∧ Hid (CertAt wx κ2 k A C2) ∧ Hid (wx.heap[w.heap.size + 1]? = some (.cells #[.int .i64 0, .int .i64 0] 35 (0, 0))) ∧ Hid (κ2 (w.heap.size + 1) = k + 10))
           case first =>
            cases GT with
            | false =>
              have hle : C2 = C1 := by
               have h := HGT.out
               have h1 := HR2.out.1
               rw [HD2.out]
               unfold lessP
               rw [if_neg]
               have := of_decide_eq_false h.symm
               omega
              have HLE := Lib.hid hle
              clear hle
              go_wp2_with fail
              go_meet
              exact ⟨κ1, HCH2.out.drew, by rw [HLE.out]; exact HC2.out.chg (Chg.of_below (J := fun _ => False) (Below.refl _ _).drew) (fun _ h => h.elim), R2.out, HRC2.out⟩
            | true =>
              have hgt : C1.keep < C1.recs.length := by
               have h := HGT.out
               have h1 := HR2.out.1
               have := of_decide_eq_true h.symm
               omega
              obtain ⟨r0, rest, hrs⟩ : ∃ r0 rest, C1.recs = r0 :: rest := by
               cases h : C1.recs with
               | nil => rw [h, List.length_nil] at hgt; omega
               | cons x y => exact ⟨x, y, rfl⟩
              have hC2e : C2 = { sumP C1 r0 with recs := rest } := by
               rw [HD2.out]
               unfold lessP
               rw [if_pos hgt, hrs]
              have hrl : n2 = rest.length + 1 := by rw [← HR2.out.1, hrs, List.length_cons]
              subst hrl
              have hr0m : r0 ∈ c.recs ++ [⟨c.count + 1, m', decide (0 < ll)⟩] := by rw [← HR1.out, hrs]; exact List.mem_cons_self ..
              have hr0r : r0.m.s.Right ∧ 1 ≤ r0.num ∧ r0.num ≤ 1099511627776 := by
               rcases List.mem_append.1 hr0m with h | h
               · exact ⟨HOK.out.right r0 h, (HOK.out.num r0 h).1, by have := (HOK.out.num r0 h).2; omega⟩
               · rw [List.mem_singleton] at h
                 subst h
                 exact ⟨by simp only; rw [Hm'.out]; exact HR.out, by simp only; omega, by simp only; omega⟩
              obtain ⟨base2, hb2, hown2⟩ := HR2.out.2.1
              obtain ⟨g2, rfl⟩ : ∃ g2, a2 = some ⟨g2, 0, none⟩ := by
               rcases hown2.2 with ⟨_, h0⟩ | ⟨g, cp, cur, h1, _⟩
               · omega
               · injection h1 with h1 _ _
                 exact ⟨g, h1⟩
              obtain ⟨b0, off0, hbo, hcells⟩ := rec_at (RowN.of_own hown2) HR2.out.1 0 (by omega) r0 (by rw [hrs]; rfl)
              simp only [Option.some.injEq, Addr.mk.injEq, and_true] at hbo
              obtain ⟨rfl, rfl⟩ := hbo
              obtain ⟨e0, e1, e2, e3, e4, e5, e6, e7⟩ := rec_cells hcells
              simp only [Nat.zero_mul, Nat.zero_add, Nat.add_zero] at e0 e1 e2 e3 e4 e5 e6 e7
              have hparts := HR2.out.2.2.2 r0 (by rw [hrs]; exact List.mem_cons_self ..)
              have hdr : Chg (fun _ => False) κ1 κ1 W2 W2.drew := Chg.of_below (Below.refl _ _).drew
              have HSUM := Lib.hid (sum_any κ1 k A C1 HS1.out.1 HS1.out.2.1 HS1.out.2.2.1 HS1.out.2.2.2 r0 hr0r.1 hr0r.2 W2.drew (HC2.out.chg hdr (fun _ h => h.elim)) (hparts.chg hdr id))
              have HC2E := Lib.hid hC2e
              have HRS := Lib.hid hrs
              have hlen0 : (0 : Int) < (rest.length : Int) + 1 := by omega
              clear hgt hC2e hrs hr0m hr0r hown2 hcells hparts hdr
              go_wp2_with fail
              refine HSUM.out.mono ?_
              rintro e w9 ⟨rfl, κ9, hc9, hC9⟩
              have HCH9 := Lib.hid (HCH2.out.trans ((hc9 : Chg _ κ1 κ9 W2.drew w9) |> fun h => (⟨h.os, h.tape, h.output, h.size, h.paint, h.block⟩ : Chg _ κ1 κ9 W2 w9)))
              have hR9 : w9.heap[w.heap.size + 1]? = some (.cells #[.int .i64 0, .int .i64 0] 35 (0, 0)) := (hc9.block _ (lt_of_block R2.out) (by rw [HRC2.out]; omega)).trans R2.out
              have HRC9 : Hid (κ9 (w.heap.size + 1) = k + 10) := (hc9.paint _ (lt_of_block R2.out)).trans HRC2.out
              have HR9 := Lib.hid hR9
              have hsk := sumP_keep C1 r0
              obtain ⟨M1, M2, M3, M4, a9, n9, cap9, h09, hA9, t1, t2, t3, t4, hr9⟩ := hC9
              have hn9 : n9 = rest.length + 1 := by rw [← hr9.1, hsk.2.2.2.2, HRS.out, List.length_cons]
              subst hn9
              obtain ⟨base9, hb9, hown9⟩ := hr9.2.1
              obtain ⟨g9, rfl⟩ : ∃ g9, a9 = some ⟨g9, 0, none⟩ := by
               rcases hown9.2 with ⟨_, h0⟩ | ⟨g, cp, cur, h1, _⟩
               · omega
               · injection h1 with h1 _ _
                 exact ⟨g, h1⟩
              have hown9' : w9.ownsRow base9 77 8 (.slice (some ⟨g9, 0, none⟩) (rest.length + 1) cap9) (rest.length + 1) ((r0 :: rest).flatMap RecV.cells) := by rw [← HRS.out, ← hsk.2.2.2.2]; exact hown9
              have hdel := delR_any base9 g9 rest.length cap9 r0 rest rfl (by omega) w9 hown9'
              obtain ⟨_, _, _, _, z4, _⟩ := nine_cells (show w9.heap[A]? = some (.cells #[_, _, _, _, _, _, _, _, _] _ _) from h09)
              have hg9k : κ9 g9 = k + 5 := hr9.2.2.1 g9 rfl
              have HDEL := Lib.hid hdel
              have H9 := Lib.hid (And.intro h09 (And.intro hA9 (And.intro t1 (And.intro t2 (And.intro t3 (And.intro t4 hr9))))))
              have HSK := Lib.hid hsk
              have HG9 := Lib.hid hg9k
              clear hc9 hR9 hsk h09 hA9 t1 t2 t3 t4 hr9 hown9 hown9' hdel hg9k e0 e1 e2 e3 e4 e5 e6 e7 q0 q4
              go_wp2_with fail
              refine HDEL.out.mono ?_
              rintro e w10 ⟨rfl, hown10, hg10⟩
              have hpop := cert_pop (r := r0) (rest := rest) H9.out.1 H9.out.2.1 H9.out.2.2.1 H9.out.2.2.2.1 H9.out.2.2.2.2.1 H9.out.2.2.2.2.2.1 H9.out.2.2.2.2.2.2 (by rw [HSK.out.2.2.2.2, HRS.out]) hb9 hown10 hg10
              have hA10 : w10.heap[A]? = _ := (hg10.block A (lt_of_block H9.out.1) (fun e => by have h1 := Option.some.inj e; have h2 := HG9.out; rw [← h1, H9.out.2.1] at h2; omega)).trans H9.out.1
              have HPOP := Lib.hid hpop
              have hR10 : Hid (w10.heap[w.heap.size + 1]? = some (.cells #[.int .i64 0, .int .i64 0] 35 (0, 0))) := (hg10.block _ (lt_of_block HR9.out) (fun e => by have h1 := Option.some.inj e; have h2 := HG9.out; rw [← h1, HRC9.out] at h2; omega)).trans HR9.out
              have f10 : w10.frozen? ⟨A, 4, none⟩ = false := by simp [World.frozen?, hA10]
              obtain ⟨_, _, _, _, y4, _⟩ := nine_cells (show w10.heap[A]? = some (.cells #[_, _, _, _, _, _, _, _, _] _ _) from hA10)
              clear hown10 hg10 hpop hA10 z4
              go_wp2_with fail
              go_meet
              exact ⟨κ9, HCH9.out.trans (HPOP.out.1.mono fun i hi => by omega), by rw [HC2E.out]; exact HPOP.out.2, set_far hR10.out (by omega), HRC9.out⟩
           case rest =>
           obtain ⟨κ2, HCH3, HC3, R3, HRC3⟩ := hcut
           obtain ⟨W3, hW3⟩ : ∃ W3, W3 = wc := ⟨_, rfl⟩
           rw [← hW3] at HCH3 HC3 R3 ⊢
           have hcnt : C2.count = c.count + 1 := by
            rw [HD2.out, ← HCO1.out]
            unfold lessP
            split
            · split
              · exact (sumP_keep _ _).2.2.2.1
              · rfl
            · rfl
           obtain ⟨_, p2, _, _, _, _⟩ := HC3.out.cells
           rw [hcnt] at p2
           obtain ⟨v0, v1, f0, f1⟩ := two_cells R3.out
           have HSTEP : Hid (Step c m.s 0 (c.count + 1) C2) := ⟨HREF.out.symm, .inr ⟨rfl, rfl, m', Hm'.out, by rw [← HLK.out, HD2.out, HD1.out]; rfl⟩⟩
           have hcA : Chg (fun i => k ≤ i ∧ i ≤ k + 9) κ κ2 w ((W3.setCell ⟨w.heap.size + 1, 0, none⟩ (.int .i64 0)).setCell ⟨w.heap.size + 1, 1, none⟩ (.int .i64 (c.count + 1))) :=
            ⟨HCH3.out.os, HCH3.out.tape, HCH3.out.output, Nat.le_trans HCH3.out.size (Nat.le_trans (grown_set W3 (w.heap.size + 1) 0 (.int .i64 0)).size (grown_set _ (w.heap.size + 1) 1 (.int .i64 (c.count + 1))).size), HCH3.out.paint, fun g hg hn => (set_far (set_far rfl (by omega)) (by omega)).trans (HCH3.out.block g hg hn)⟩
           have hcT : CertAt ((W3.setCell ⟨w.heap.size + 1, 0, none⟩ (.int .i64 0)).setCell ⟨w.heap.size + 1, 1, none⟩ (.int .i64 (c.count + 1))) κ2 k A C2 := by
            refine HC3.out.chg (J := (· = k + 10)) ?_ (fun i hi => by omega)
            exact (Chg.of_grown (grown_set W3 (w.heap.size + 1) 0 _) HRC3.out).trans (Chg.of_grown (grown_set _ (w.heap.size + 1) 1 _) HRC3.out)
           have HCA := Lib.hid hcA
           have HCT := Lib.hid hcT
           clear hcA hcT
           clear hW3 hcnt q0 q4
           go_wp2_with fail
           refine bodyPost_ret (results_cell Tryz.results9 rfl (load_verdict (set2 R3.out (.int .i64 0) (.int .i64 (c.count + 1))))) rfl ?_
           exact ⟨κ2, C2, 0, c.count + 1, rfl, HCA.out, HCT.out, HSTEP.out⟩
end Go.Proofs.YtpknmfmpiachkaaGreat
