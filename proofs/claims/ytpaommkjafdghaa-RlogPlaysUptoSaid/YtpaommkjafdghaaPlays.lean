/- RlogPlays: the walk. -/
import Derived.Test.YtpaommkjafdghaaPlay1
import Derived.Deep.CutRange
import Derived.Deep.CutBlock
namespace Go.Proofs.Ytpaommkjafdghaa
open Go.RowKit

theorem EnAt.of_own {w : World} {B m cq : Nat} {P : Nat → Prop} {ps : List En} {ao : Option Addr} (hrow : w.ownsRow B 32 4 (.slice ao m cq) m (ps.flatMap En.cells)) (hlen : ps.length = m) (hok : ∀ u ∈ ps, Sl.ok w u.s ∧ SlP P u.s) (hB : ∀ b, B ≤ b → P b) : EnAt w P ps ao m :=
  ⟨hlen, RowN.of_own hrow, hok, fun b off e hn => by
    subst e
    exact hB b (hrow.lt b rfl).1⟩

theorem slP_lowM {w : World} {B M : Nat} {s : Sl} {N : Nat} {ix tm : Int} {c : Cf} {es : List En} {ae : Option Addr} {n cap : Nat} {w' : World} (h : Sl.ok w s) (hl : LogAt w' B N ix tm c es ae n cap) (hB : w.heap.size ≤ B) (hM : w.heap.size ≤ M) : SlP (OffM N ae M) s := fun b off e hn => by
  refine ⟨slP_low h hl hB b off e hn, ?_⟩
  have hb : b < w.heap.size := by
    obtain ⟨b', off', e', hc⟩ := h.1.2 0 hn
    rw [e] at e'
    injection e' with e'
    injection e' with e1 _ _
    subst e1
    exact World.block_lt_of_cell? w _ hc
  omega

set_option maxRecDepth 100000 in
set_option maxHeartbeats 16000000 in
theorem rlogPlays_walk (index term : Int) (c : Cf) (a : Option Addr) (len cap : Nat) (os : List OpE) (at' most : Int) (w : World) (hc : c.ok w) (hr : RowN w a 4 len (os.flatMap OpE.cells)) (hol : os.length = len) (hok1 : ∀ o ∈ os, o.ok w) (hlc : len ≤ cap) (hm : cap ≤ maxLen) (_hn : a = none → cap = 0) (hbk : c.v.len + c.l.len + bulkO os ≤ 1048576) :
    Calls Try.prog 5 #[.int .i64 index, .int .i64 term, .agg #[.slice c.v.a c.v.len c.v.cap, .slice c.l.a c.l.len c.l.cap], .slice a len cap, .int .i64 at', .int .i64 most] w fun e w' => e = .returned (.bool true) ∧ Below w.heap.size w w' := by
  have hlen : len ≤ 9223372036854775807 := by simp only [maxLen] at hm; omega
  have hcb : c.v.len ≤ 1048576 ∧ c.l.len ≤ 1048576 := by omega
  have hok : ∀ o ∈ os, o.ok w ∧ o.len ≤ 1048576 := fun o ho => ⟨hok1 o ho, by have := bulkO_mem ho; have := bulkE_len o.us; have := (hok1 o ho).len; omega⟩
  clear hok1 hbk
  have hbx : Below w.heap.size w (w.alloc (.cells #[.slice c.v.a c.v.len c.v.cap, .slice c.l.a c.l.len c.l.cap] 27)) := below_alloc (Below.refl _ _) _
  have hbox : ∀ Z, Below (w.alloc (.cells #[.slice c.v.a c.v.len c.v.cap, .slice c.l.a c.l.len c.l.cap] 27)).heap.size (w.alloc (.cells #[.slice c.v.a c.v.len c.v.cap, .slice c.l.a c.l.len c.l.cap] 27)) Z → Z.heap[w.heap.size]? = some (.cells #[.slice c.v.a c.v.len c.v.cap, .slice c.l.a c.l.len c.l.cap] 27 (0, 0)) := fun Z hZ => (hZ.block _ (by rw [World.size_alloc]; omega)).trans (heap_alloc_new w _)
  have hnew := rnew_any index term c _ (hc.below hbx) (by omega)
  have hsay : c.says.1.length ≤ 1048576 ∧ c.says.2.length ≤ 1048576 := by
    have h1 := hc.1.1.1
    have h2 := hc.2.1.1
    rw [cellsZ_len] at h1 h2
    simp only [Cf.says]
    omega
  have HR := Lib.hid hr
  have HOK := Lib.hid hok
  have HOL := Lib.hid hol
  have HNEW := Lib.hid hnew
  have HBX := Lib.hid hbx
  have HBOX := Lib.hid hbox
  have HSAY := Lib.hid hsay
  have HC := Lib.hid hc
  clear hr hok hol hnew hbx hbox hc hsay hcb
  go_enter Try.func5, Try.ntmps5
  go_wp2_with fail
  refine HNEW.out.mono ?_
  rintro e w2 ⟨N, c1, rfl, hL, hs1, hb2⟩
  rw [World.size_alloc] at hL
  have HL := Lib.hid hL
  have HS1 := Lib.hid hs1
  have HB2 := Lib.hid hb2
  clear hL hs1 hb2 HNEW
  go_wp2_with fail
  refine (alive_any _).mono ?_
  rintro e w3 ⟨rfl, hb3⟩
  have hb13 := below_then HB2.out hb3
  obtain ⟨z0, z1, _, _⟩ := two_cells (HBOX.out _ hb13)
  have HB3 := Lib.hid (below_then HBX.out hb13)
  have HB13 := Lib.hid hb13
  have HL3 := Lib.hid (HL.out.below hb3)
  clear hb3 hb13 HB2 HL
  go_wp2_with fail
  refine (rnew_ref index term c w3).mono ?_
  rintro e w4 ⟨rfl, hb4⟩
  have hI : PlX w (w.heap.size + 1) N w4.heap.size (w4.alloc (.cells #[.int .i64 (clampN index), .int .i64 (clampN term), .slice c.v.a c.v.len c.v.cap, .slice c.l.a c.l.len c.l.cap, .slice none 0 0] 53)) := by
    have hbw := below_then HB3.out hb4
    have hb5 : Below w4.heap.size w4 (w4.alloc (.cells #[.int .i64 (clampN index), .int .i64 (clampN term), .slice c.v.a c.v.len c.v.cap, .slice c.l.a c.l.len c.l.cap, .slice none 0 0] 53)) := below_alloc (Below.refl _ _) _
    have hL5 := (HL3.out.below hb4).below hb5
    have hNlo := hL5.lo
    have hz4 := hbw.size
    have hz3 := HB13.out.size
    rw [World.size_alloc] at hz3
    have hz34 := hb4.size
    exact ⟨_, _, c1, [], none, 0, 0, c, none, 0, [], hL5, ⟨clampN_le _, clampN_le _, fun k e he => (by cases he)⟩, (fun e he => by cases he), by rw [HS1.out]; exact HSAY.out,
      ⟨heap_alloc_new w4 _, ⟨rfl, RowN.nil _ _ _, fun u hu => (by cases hu), fun b o e => (by cases e)⟩, HC.out.below (below_then hbw hb5), ⟨fun b o e hn => ⟨⟨by have : b < w.heap.size := HC.out.low.1 b o e hn; omega, fun e => by cases e⟩, by have : b < w.heap.size := HC.out.low.1 b o e hn; omega⟩, fun b o e hn => ⟨⟨by have : b < w.heap.size := HC.out.low.2 b o e hn; omega, fun e => by cases e⟩, by have : b < w.heap.size := HC.out.low.2 b o e hn; omega⟩⟩⟩,
      rfl, HS1.out.symm, below_then hbw hb5, by have := hb5.size; omega, by omega, hz4⟩
  have HI := Lib.hid hI
  obtain ⟨M, hMM⟩ : ∃ M, M = w4.heap.size := ⟨_, rfl⟩
  obtain ⟨W5, hW5⟩ : ∃ W5, W5 = w4.alloc (.cells #[.int .i64 (clampN index), .int .i64 (clampN term), .slice c.v.a c.v.len c.v.cap, .slice c.l.a c.l.len c.l.cap, .slice none 0 0] 53) := ⟨_, rfl⟩
  rw [← hW5, ← hMM] at HI
  have HMM := Lib.hid hMM
  have HW5 := Lib.hid hW5
  clear hI hb4 hMM hW5 HB3 HB13 HL3 HS1 HBOX HSAY z0 z1
  go_wp2_with fail
  rw [← HW5.out, ← HMM.out]
  go_loopw [39] (fun i wr => ∃ (k : Nat), i = .int .i64 k ∧ k ≤ len ∧ Hid (PlX w (w.heap.size + 1) N M wr)) (fun i _ => len - (intOf i).toNat)
  case atStart => exact ⟨0, rfl, by omega, HI.out⟩
  case round =>
    obtain ⟨k, rfl, hk, HI⟩ := hrel
    by_cases hlt : k < len
    · obtain ⟨o, hok⟩ : ∃ o, os[k]? = some o := ⟨_, List.getElem?_eq_getElem (by rw [HOL.out]; omega)⟩
      obtain ⟨ix, tm, c', es, ae, n, cp, c2, a2, cap2, es2, hS⟩ := HI.out
      obtain ⟨b, off, rfl, e0, e1, e2, e3⟩ := op_at (HR.out.below hS.below) HOL.out k hlt o hok
      have hkl : (k : Int) < (len : Int) := by omega
      have HOO := Lib.hid (HOK.out o (List.mem_of_getElem? hok))
      obtain ⟨X, hX⟩ : ∃ X, X = wr.alloc (.cells #[.int .i64 o.kd, .int .i64 o.n, .bool o.near, .slice o.a o.len o.cap] 56) := ⟨_, rfl⟩
      have hbX : Below wr.heap.size wr X := hX ▸ below_alloc (Below.refl _ _) _
      have hXb : X.heap[wr.heap.size]? = some (.cells #[.int .i64 o.kd, .int .i64 o.n, .bool o.near, .slice o.a o.len o.cap] 56 (0, 0)) := hX ▸ heap_alloc_new wr _
      have hSX := hS.later hbX
      obtain ⟨⟨m0, m1, m2, m3, m4⟩, _⟩ := five_cells hSX.ref.mem
      obtain ⟨⟨o0, o1, o2, o3⟩, _⟩ := four_cells hXb
      have hrx := hS.snd.rx
      have hrg := HOO.out.1.rng
      have hmk := and_mask o.n 15 (by omega)
      have hmk' : 0 ≤ bits .and .i64 o.n 15 ∧ bits .and .i64 o.n 15 ≤ 15 := hmk
      have HX := Lib.hid hX
      have HXB := Lib.hid hXb
      have HSX := Lib.hid hSX
      clear hS hX hbX hXb hSX hok hmk HI
      rw [HX.out] at m0 m1 m2 m3 m4 o0 o1 o2 o3
      go_upto_if 46 with fail
      go_cut [17, 39] from 39 to 115 (fun v17 v39 wx => ∃ nn : Int, v17 = .int .i64 nn ∧ (-9223372036854775808 ≤ nn ∧ nn ≤ 9223372036854775807) ∧ v39 = .int .i64 k ∧ wx = X)
      case first =>
        cases hnr : o.near with
        | true =>
          have HX2 := HX.out
          rw [hnr] at m0 m1 m2 m3 m4 o0 o1 o2 o3 HX2
          have HX3 := Lib.hid HX2
          clear HX2
          go_wp2_with fail
          go_meet
          exact ⟨_, rfl, by omega, rfl, HX3.out.symm⟩
        | false =>
          have HX2 := HX.out
          rw [hnr] at m0 m1 m2 m3 m4 o0 o1 o2 o3 HX2
          have HX3 := Lib.hid HX2
          clear HX2
          go_wp2_with fail
          go_meet
          exact ⟨_, rfl, hrg, rfl, HX3.out.symm⟩
      case rest =>
        obtain ⟨nn, rfl, hnn, rfl, rfl⟩ := hcut
        clear m0 m1 m2 m3 m4 o0 o1 o2 o3 hmk' hrg
        obtain ⟨⟨m0, m1, m2, m3, m4⟩, _⟩ := five_cells HSX.out.ref.mem
        have hn40 : n ≤ 1099511627776 := by have := HSX.out.snd.few HSX.out.all; rw [HSX.out.log.len] at this; exact this
        have hla := rlast_any ix tm c2 a2 n cap2 es2 wc HSX.out.ref.en.enR (by omega)
        rw [last_says HSX.out.says] at hla
        have hlast := HSX.out.snd.last
        obtain ⟨p, hp⟩ : ∃ p, p = lastOf ix tm es := ⟨_, rfl⟩
        rw [← hp] at hla hlast
        obtain ⟨li, lt⟩ := p
        simp only at hla hlast
        have HLA := Lib.hid hla
        have HP := Lib.hid hp
        clear hla hp hlast
        go_wp2_with fail
        refine HLA.out.mono ?_
        rintro e w6 ⟨rfl, hb6⟩
        obtain ⟨⟨o0, o1, o2, o3⟩, _⟩ := four_cells ((hb6.block _ (lt_of_block HXB.out)).trans HXB.out)
        have HS6 := Lib.hid (HSX.out.later hb6)
        clear hb6 HLA m0 m1 m2 m3 m4
        go_upto_block 2 with fail
        go_cut [20, 21, 22, 39] from 39 to 115 (fun v20 v21 v22 v39 wx => ∃ code : Int, v20 = .int .i64 code ∧ v21 = .int .i64 code ∧ v39 = .int .i64 k ∧ Hid (PlX w (w.heap.size + 1) N M wx))
        case first =>
          have HSE : Hid (Sound ix tm es2) := Lib.hid (HS6.out.snd.says HS6.out.says)
          have HAE : Hid (AllR es2) := Lib.hid (HS6.out.all.says HS6.out.says)
          by_cases h1 : o.kd = 1
          · have hput := put_any o.a o.len o.cap o.us li w6 (HOO.out.1.row.below HS6.out.below) HOO.out.1.len (by have := HOO.out.2; omega)
            have HPUT := Lib.hid hput
            have hk1 : (o.kd == 1) = true := by simp [h1]
            clear hput h1
            go_wp2_with fail
            refine HPUT.out.mono ?_
            rintro e w7 ⟨ao, cq, rfl, hown7, hb7⟩
            have hpl := putOf_len o.us li
            rw [HOO.out.1.len] at hpl
            obtain ⟨ps, hps⟩ : ∃ ps, ps = putOf li o.us := ⟨_, rfl⟩
            have hpss : ∀ v ∈ ps, ∃ u ∈ o.us, v.s = u.s := fun v hv => putOf_s o.us li v (hps ▸ hv)
            rw [← hps] at hpl hown7 ⊢
            rw [hpl] at hown7 ⊢
            have hS7 := HS6.out.later hb7
            have hrow7 : w7.ownsRow w6.heap.size 32 4 (.slice ao ps.length cq) ps.length (ps.flatMap En.cells) := by rw [hpl]; exact hown7
            have hen := EnAt.of_row HS6.out.log hrow7 (us := o.us) (fun u hu => ⟨(HOO.out.1.ok u hu).below hS7.below, slP_low (HOO.out.1.ok u hu) HS6.out.log HS6.out.lo⟩) hpss hpl
            have hap := append_any (w.heap.size + 1) N ix tm c' es ae n cp ao o.len cq ps w7 hS7.log hS7.snd (by have := HOO.out.2; omega) hen
            rw [← HP.out] at hap
            simp only at hap
            obtain ⟨code, hcode⟩ : ∃ code, code = appendOf li lt ps := ⟨_, rfl⟩
            rw [← hcode] at hap
            have HAP := Lib.hid hap
            have HS7 := Lib.hid hS7
            have HEN := Lib.hid hen
            have HPSS := Lib.hid hpss
            have HPL := Lib.hid hpl
            have HCD := Lib.hid hcode
            clear hap hown7 hrow7 hen hpl hb7 HPUT hps hpss hS7 hcode o0 o1 o2 o3
            go_wp2_with fail
            refine HAP.out.mono ?_
            rintro e w8 ⟨rfl, hne, h0⟩
            by_cases hc0 : code = 0
            · subst hc0
              obtain ⟨vs, ae', cp', hsay, hL8, hst, hnew⟩ := h0 rfl
              have hr8 := HS7.out.ref.nstep HS7.out.log hst
              have hps8 := HEN.out.nstep hst
              have hb78 := HS7.out.below.trans ((HS7.out.log.stepBelow hst HS7.out.size).mono HS7.out.lo)
              have hra := rappend_any ix tm c2 a2 n cap2 es2 ao o.len cq ps w8 hr8.en.enR HSE.out hps8.enR (fun u hu => (hps8.ok u hu).1) (by have := HOO.out.2; omega) hn40
              rw [last_says HS7.out.says, ← HP.out] at hra
              simp only at hra
              rw [← HCD.out] at hra
              obtain ⟨⟨m0, m1, m2, m3, m4⟩, f0, f1, f2, f3, f4⟩ := five_cells hr8.mem
              have hM8 := lt_of_block hr8.mem
              have HRA := Lib.hid hra
              have HR8 := Lib.hid hr8
              have HPS8 := Lib.hid hps8
              have HL8 := Lib.hid hL8
              have HST := Lib.hid hst
              have HSY := Lib.hid hsay
              clear hne h0 hra hr8 hps8 hL8 hst hsay hnew hb78
              go_wp2_with fail
              refine HRA.out.mono ?_
              rintro e w9 ⟨_, hq⟩
              obtain ⟨ao2, cq2, rfl, hown9, hb9⟩ := hq rfl
              have hl2 : (es2 ++ ps).length = n + ps.length := by rw [List.length_append, HR8.out.en.len]
              rw [hl2] at hown9 ⊢
              have hr9 := HR8.out.later hb9
              obtain ⟨⟨s0, s1, s2, s3, s4⟩, t0, t1, t2, t3, t4⟩ := five_cells hr9.mem
              have hbw8 : Below w.heap.size w w8 := HS7.out.below.trans ((HS7.out.log.stepBelow HST.out HS7.out.size).mono HS7.out.lo)
              have hen9 : EnAt w9 (OffM N ae' M) (es2 ++ ps) ao2 (n + ps.length) := EnAt.of_own hown9 hl2 (fun u hu => by
                rcases List.mem_append.1 hu with hu | hu
                · exact hr9.en.ok u hu
                · obtain ⟨u', hu', he⟩ := HPSS.out u hu
                  rw [he]
                  exact ⟨(HOO.out.1.ok u' hu').below (below_then hbw8 hb9), slP_lowM (HOO.out.1.ok u' hu') HL8.out HS7.out.lo HS7.out.loM⟩) (off_new HL8.out hM8)
              have hfin := HS7.out.step (cap3 := cq2) HL8.out HST.out (HS7.out.snd.append (by rw [← HP.out]; exact HCD.out.symm) HSY.out) (HS7.out.all.append HCD.out.symm HSY.out) HS7.out.sml hb9 hen9 hr9.cok hr9.cat (by rw [List.map_append, List.map_append, HS7.out.says, HSY.out]) HS7.out.conf
              have HFIN := Lib.hid hfin
              clear hfin hen9 hbw8 hr9 hown9 hb9 hq m0 m1 m2 m3 m4 f0 f1 f2 f3 f4
              go_wp2_with fail
              go_meet
              exact ⟨0, rfl, rfl, rfl, _, _, _, _, _, _, _, _, _, _, _, HFIN.out⟩
            · have hb8 := hne hc0
              have hS8 := HS7.out.later hb8
              have hps8 := HEN.out.below hb8
              have hra := rappend_any ix tm c2 a2 n cap2 es2 ao o.len cq ps w8 hS8.ref.en.enR HSE.out hps8.enR (fun u hu => (hps8.ok u hu).1) (by have := HOO.out.2; omega) hn40
              rw [last_says HS7.out.says, ← HP.out] at hra
              simp only at hra
              rw [← HCD.out] at hra
              obtain ⟨⟨m0, m1, m2, m3, m4⟩, f0, f1, f2, f3, f4⟩ := five_cells hS8.ref.mem
              have HRA := Lib.hid hra
              have HS8 := Lib.hid hS8
              clear hne h0 hra hb8 hS8 hps8
              go_wp2_with fail
              refine HRA.out.mono ?_
              rintro e w9 ⟨hq, _⟩
              obtain ⟨rfl, hb9⟩ := hq hc0
              have hS9 := HS8.out.later hb9
              obtain ⟨⟨s0, s1, s2, s3, s4⟩, t0, t1, t2, t3, t4⟩ := five_cells hS9.ref.mem
              have HFIN := Lib.hid hS9.same
              clear hS9 hb9 hq m0 m1 m2 m3 m4 f0 f1 f2 f3 f4
              go_wp2_with fail
              go_meet
              exact ⟨code, rfl, rfl, rfl, _, _, _, _, _, _, _, _, _, _, _, HFIN.out⟩
          · have hk1 : (o.kd == 1) = false := by simp [h1]
            by_cases h2 : o.kd = 2
            · have hk2 : (o.kd == 2) = true := by simp [h2]
              clear h1 h2
              by_cases hc : nn ≤ ix
              · have hcu := cutFrom_no _ N ix tm c' es ae n cp nn w6 HS6.out.log hc
                have HCU := Lib.hid hcu
                clear hcu
                go_wp2_with fail
                refine HCU.out.mono ?_
                rintro e w7 ⟨rfl, hb7⟩
                have hS7 := HS6.out.later hb7
                obtain ⟨⟨m0, m1, m2, m3, m4⟩, _⟩ := five_cells hS7.ref.mem
                have HS7 := Lib.hid hS7
                clear hb7 hS7 HCU
                go_wp2_with fail
                refine (rcutFrom_no ix tm c2 a2 n cap2 nn w7 hc).mono ?_
                rintro e w8 ⟨rfl, hb8⟩
                have hS8 := HS7.out.later hb8
                obtain ⟨⟨s0, s1, s2, s3, s4⟩, t0, t1, t2, t3, t4⟩ := five_cells hS8.ref.mem
                have HFIN := Lib.hid hS8.same
                clear hS8 hb8 m0 m1 m2 m3 m4
                go_wp2_with fail
                go_meet
                exact ⟨1, rfl, rfl, rfl, _, _, _, _, _, _, _, _, _, _, _, HFIN.out⟩
              · have hcu := cutFrom_any _ N ix tm c' es ae n cp nn w6 HS6.out.log HS6.out.snd.rx (by omega) (by omega) (by omega)
                obtain ⟨tk, htk⟩ : ∃ tk, tk = (nn - ix - 1).toNat := ⟨_, rfl⟩
                rw [← htk] at hcu
                have HTK := Lib.hid htk
                have HCU := Lib.hid hcu
                clear hcu htk
                go_wp2_with fail
                refine HCU.out.mono ?_
                rintro e w7 ⟨rfl, hL7, hst⟩
                have hr7 := HS6.out.ref.nstep HS6.out.log hst
                have hrc := rcutFrom_any ix tm c2 a2 n cap2 es2 nn w7 hr7.en.enR hn40 (by omega) hrx.1 (by omega)
                rw [part_low HSE.out nn (by omega), ← HTK.out] at hrc
                have hl2 : (es2.take tk).length = min tk n := by rw [List.length_take, hr7.en.len]
                obtain ⟨⟨m0, m1, m2, m3, m4⟩, _⟩ := five_cells hr7.mem
                have hM7 := lt_of_block hr7.mem
                have HRC := Lib.hid hrc
                have HR7 := Lib.hid hr7
                have HL7 := Lib.hid hL7
                have HST := Lib.hid hst
                have HL2 := Lib.hid hl2
                clear hrc hr7 hL7 hst hl2 HCU
                go_wp2_with fail
                refine HRC.out.mono ?_
                rintro e w8 ⟨ao2, cq2, rfl, hown8, hb8⟩
                rw [HL2.out] at hown8 ⊢
                have hr8 := HR7.out.later hb8
                obtain ⟨⟨s0, s1, s2, s3, s4⟩, t0, t1, t2, t3, t4⟩ := five_cells hr8.mem
                have hen8 : EnAt w8 (OffM N ae M) (es2.take tk) ao2 (min tk n) := EnAt.of_own hown8 HL2.out (fun u hu => hr8.en.ok u (List.mem_of_mem_take hu)) (off_new HL7.out hM7)
                have hfin := HS6.out.step (cap3 := cq2) HL7.out HST.out (HS6.out.snd.take _) (HS6.out.all.take _) HS6.out.sml hb8 hen8 hr8.cok hr8.cat (by rw [List.map_take, List.map_take, HS6.out.says]) HS6.out.conf
                have HFIN := Lib.hid hfin
                clear hfin hen8 hr8 hown8 hb8 m0 m1 m2 m3 m4
                go_wp2_with fail
                go_meet
                exact ⟨0, rfl, rfl, rfl, _, _, _, _, _, _, _, _, _, _, _, HFIN.out⟩
            · have hk2 : (o.kd == 2) = false := by simp [h2]
              by_cases h3 : o.kd = 3
              · have hk3 : (o.kd == 3) = true := by simp [h3]
                clear h1 h2 h3
                cases htb : (termOf ix tm es nn).2 with
                | false =>
                  have hcu := dropTo_no _ N ix tm c' es ae n cp nn w6 HS6.out.log HS6.out.snd (by omega) htb
                  have HCU := Lib.hid hcu
                  have HTB := Lib.hid htb
                  clear hcu htb
                  go_wp2_with fail
                  refine HCU.out.mono ?_
                  rintro e w7 ⟨rfl, hb7⟩
                  have hS7 := HS6.out.later hb7
                  obtain ⟨⟨m0, m1, m2, m3, m4⟩, _⟩ := five_cells hS7.ref.mem
                  have hrd := rdropTo_no ix tm c2 a2 n cap2 es2 nn w7 hS7.ref.en.enR HSE.out hn40 (by rw [term_says HS6.out.says]; exact HTB.out)
                  have HRD := Lib.hid hrd
                  have HS7 := Lib.hid hS7
                  clear hb7 hS7 HCU hrd
                  go_wp2_with fail
                  refine HRD.out.mono ?_
                  rintro e w8 ⟨rfl, hb8⟩
                  have hS8 := HS7.out.later hb8
                  obtain ⟨⟨s0, s1, s2, s3, s4⟩, t0, t1, t2, t3, t4⟩ := five_cells hS8.ref.mem
                  have HFIN := Lib.hid hS8.same
                  clear hS8 hb8 m0 m1 m2 m3 m4
                  go_wp2_with fail
                  go_meet
                  exact ⟨1, rfl, rfl, rfl, _, _, _, _, _, _, _, _, _, _, _, HFIN.out⟩
                | true =>
                  have hri : ix ≤ nn ∧ nn ≤ ix + es.length := by
                    have h := htb
                    unfold termOf at h
                    split at h
                    · cases h
                    · omega
                  have hcu := dropTo_any _ N ix tm c' es ae n cp nn w6 HS6.out.log HS6.out.snd (by omega) (by
                    have h1 := HS6.out.log.vo.len
                    have h2 := HS6.out.log.le.len
                    have h3 := HS6.out.sml
                    simp only [Cf.says] at h3
                    omega) htb
                  have HCU := Lib.hid hcu
                  have HTB := Lib.hid htb
                  clear hcu htb
                  go_wp2_with fail
                  refine HCU.out.mono ?_
                  rintro e w7 ⟨rfl, c3, a3, cp3, hcs3, hL7, hst⟩
                  have hr7 := HS6.out.ref.nstep HS6.out.log hst
                  have hM7 := lt_of_block hr7.mem
                  have hrd := rdropTo_any (OffM N a3 M) ix tm c2 a2 n cap2 es2 nn w7 hr7.en.enR (fun u hu => (hr7.en.ok u hu).1) hr7.cok hr7.cat (off_new hL7 hM7) HAE.out HSE.out hn40 (by rw [term_says HS6.out.says]; exact HTB.out)
                  rw [term_says HS6.out.says, conf_says HS6.out.says, HS6.out.conf] at hrd
                  have hl2 : (es2.drop (nn - ix).toNat).length = n - (nn - ix).toNat := by rw [List.length_drop, hr7.en.len]
                  obtain ⟨⟨m0, m1, m2, m3, m4⟩, _⟩ := five_cells hr7.mem
                  have HRD := Lib.hid hrd
                  have HR7 := Lib.hid hr7
                  have HL7 := Lib.hid hL7
                  have HST := Lib.hid hst
                  have HL2 := Lib.hid hl2
                  have HCS3 := Lib.hid hcs3
                  have HRI := Lib.hid hri
                  clear hrd hr7 hL7 hst hl2 HCU hcs3 hri
                  go_wp2_with fail
                  refine HRD.out.mono ?_
                  rintro e w8 ⟨c4, ao2, cq2, rfl, hsay4, hok4, hcp4, hown8, hb8⟩
                  rw [HL2.out] at hown8 ⊢
                  have hr8 := HR7.out.later hb8
                  obtain ⟨⟨s0, s1, s2, s3, s4⟩, t0, t1, t2, t3, t4⟩ := five_cells hr8.mem
                  have hen8 : EnAt w8 (OffM N a3 M) (es2.drop (nn - ix).toNat) ao2 (n - (nn - ix).toNat) := EnAt.of_own hown8 HL2.out (fun u hu => hr8.en.ok u (List.mem_of_mem_drop hu)) (off_new HL7.out hM7)
                  have hfin := HS6.out.step (cap3 := cq2) HL7.out HST.out (HS6.out.snd.drop HS6.out.all nn HRI.out.1 HRI.out.2) (HS6.out.all.drop _) (by rw [HCS3.out]; exact conf_small _ _ _ _ _ HS6.out.sml (by omega)) hb8 hen8 hok4 hcp4 (by rw [List.map_drop, List.map_drop, HS6.out.says]) (by rw [hsay4, HCS3.out])
                  have HFIN := Lib.hid hfin
                  clear hfin hen8 hr8 hown8 hb8 hok4 hcp4 hsay4 m0 m1 m2 m3 m4
                  go_wp2_with fail
                  go_meet
                  exact ⟨0, rfl, rfl, rfl, _, _, _, _, _, _, _, _, _, _, _, HFIN.out⟩
              · have hk3 : (o.kd == 3) = false := by simp [h3]
                clear h1 h2 h3
                go_wp2_with fail
                go_meet
                exact ⟨0, rfl, rfl, rfl, _, _, _, _, _, _, _, _, _, _, _, HS6.out⟩
        case rest =>
          obtain ⟨code, rfl, rfl, rfl, HI2⟩ := hcut
          clear HS6 HOO HSX HX HXB o0 o1 o2 o3 HP hn40 hrx
          obtain ⟨ix3, tm3, c3, es3, ae3, n3, cp3, c4, a4, cap4, es4, hS⟩ := HI2.out
          have hal := fun x y Z (hZ : Below wc.heap.size wc Z) => alike_any _ N ix3 tm3 c3 es3 ae3 n3 cp3 c4 a4 cap4 es4 x y Z ((hS.later hZ).log) hS.snd hS.all hS.sml (hS.later hZ).ref.en.enR (fun u hu => ((hS.later hZ).ref.en.ok u hu).1) (hS.later hZ).ref.cok hS.says hS.conf
          have hmm : ∀ Z, Below wc.heap.size wc Z → _ := fun Z (hZ : Below wc.heap.size wc Z) => (five_cells (hS.later hZ).ref.mem).1
          obtain ⟨m0, m1, m2, m3, m4⟩ := hmm wc (Below.refl _ _)
          have HAL := Lib.hid hal
          have HMEM := Lib.hid hmm
          have HS := Lib.hid hS
          clear hal hmm hS
          go_wp2_with fail
          refine (HAL.out nn most wc (Below.refl _ _)).mono ?_
          rintro e w8 ⟨rfl, hb8⟩
          clear m0 m1 m2 m3 m4
          obtain ⟨m0, m1, m2, m3, m4⟩ := HMEM.out w8 hb8
          have HB8 := Lib.hid hb8
          clear hb8
          go_wp2_with fail
          refine (HAL.out at' 3 w8 HB8.out).mono ?_
          rintro e w9 ⟨rfl, hb9⟩
          have HB9 := Lib.hid (below_then HB8.out hb9)
          clear hb9 m0 m1 m2 m3 m4
          go_wp2_with fail
          go_roundw
          case rel => exact ⟨k + 1, by go_num, by omega, _, _, _, _, _, _, _, _, _, _, _, HS.out.later HB9.out⟩
          case measure => simp [intOf]; omega
    · obtain ⟨_, _, _, _, _, _, _, _, _, _, _, hS⟩ := HI.out
      have HBW := Lib.hid hS.below
      clear hS
      go_wp2_with fail
      go_ret
      exact ⟨rfl, HBW.out⟩
end Go.Proofs.Ytpaommkjafdghaa
