/- RlogDrops: the walk. -/
import Derived.Test.YtpaommkjafdghaaApart
namespace Go.Proofs.Ytpaommkjafdghaa
open Go.RowKit

theorem Sound.says {ix tm : Int} {es fs : List En} (h : Sound ix tm es) (hs : fs.map En.says = es.map En.says) : Sound ix tm fs :=
  ⟨h.rx, h.rt, fun k e he => by
    obtain ⟨u, hu, hsay⟩ := says_at hs k e he
    have := h.idx k u hu
    have hx : e.ix = u.ix := congrArg Prod.fst hsay
    omega⟩
theorem AllR.says {es fs : List En} (h : AllR es) (hs : fs.map En.says = es.map En.says) : AllR fs := fun e he => by
  obtain ⟨k, hk⟩ := List.getElem?_of_mem he
  obtain ⟨u, hu, hsay⟩ := says_at hs k e hk
  have := h u (List.mem_of_getElem? hu)
  simp only [En.says, Prod.mk.injEq] at hsay
  rw [hsay.1, hsay.2.1, hsay.2.2.1, hsay.2.2.2]
  exact this
theorem slP_low {w : World} {B : Nat} {s : Sl} {N : Nat} {ix tm : Int} {c : Cf} {es : List En} {ae : Option Addr} {n cap : Nat} {w' : World} (h : Sl.ok w s) (hl : LogAt w' B N ix tm c es ae n cap) (hB : w.heap.size ≤ B) : SlP (Off N ae) s := fun b off e hn => by
  have hb : b < w.heap.size := by
    obtain ⟨b', off', e', hc⟩ := h.1.2 0 hn
    rw [e] at e'
    injection e' with e'
    injection e' with e1 _ _
    subst e1
    exact World.block_lt_of_cell? w _ hc
  exact ⟨by have := hl.lo; omega, fun e => by have := (hl.on (.inr (.inr (.inr (.inl e))))).1; omega⟩

theorem OwnE.cap {w : World} {base : Nat} {ls : List En} {ao : Option Addr} {n cap : Nat} (h : OwnE w base ls ao n cap) : n ≤ maxLen := by
  rcases h.row.2 with ⟨_, h0⟩ | ⟨g, cp, cur, hv, _, hg, h1, h2, _⟩
  · omega
  · exact Nat.le_trans h1 h2

set_option maxRecDepth 100000 in
set_option maxHeartbeats 6400000 in
theorem rlogDrops_walk (a : Option Addr) (len cap : Nat) (us : List En) (to at' : Int) (w : World) (hr : RowN w a 4 len (us.flatMap En.cells)) (hul : us.length = len) (hok : ∀ o ∈ us, Sl.ok w o.s) (hlc : len ≤ cap) (hm : cap ≤ maxLen) (_hn : a = none → cap = 0) :
    Calls Try.prog 3 #[.slice a len cap, .int .i64 to, .int .i64 at'] w fun e w' => e = .returned (.bool true) ∧ Below w.heap.size w w' := by
  have hlen : len ≤ 9223372036854775807 := by simp only [maxLen] at hm; omega
  have HR := Lib.hid hr
  have HOK := Lib.hid hok
  have HUL := Lib.hid hul
  clear hr hok hul
  go_enter Try.func3, Try.ntmps3
  go_wp2_with fail
  refine (first_any _).mono ?_
  rintro e w1 ⟨c0, rfl, hs0, hv0, hl0, hb1⟩
  have hln : c0.v.len = 2 ∧ c0.l.len = 0 := by
    have h1 := hv0.len
    have h2 := hl0.len
    simp only [Cf.says, Prod.mk.injEq] at hs0
    rw [hs0.1] at h1
    rw [hs0.2] at h2
    exact ⟨h1.symm, h2.symm⟩
  have hnew := rnew_any 0 0 c0 w1 (Cf.ok_of_own hv0 hl0) (by omega)
  have HNEW := Lib.hid hnew
  have HB1 := Lib.hid hb1
  have HS0 := Lib.hid hs0
  clear hnew hb1 hs0 hv0 hl0 hln
  go_wp2_with fail
  refine HNEW.out.mono ?_
  rintro e w2 ⟨N1, c1, rfl, hL1, hs1, hb2⟩
  rw [show clampN 0 = 0 from by decide] at hL1
  have hbw2 := below_then HB1.out hb2
  have hz01 := HB1.out.size
  have hz12 := hb2.size
  have HL1 := Lib.hid hL1
  have HB2 := Lib.hid hbw2
  have HS1 := Lib.hid (hs1.trans HS0.out)
  clear hL1 hs1 hb2 hbw2 HNEW HS0
  go_wp2_with fail
  refine (first_any _).mono ?_
  rintro e w3 ⟨c0', rfl, hs0, hv0, hl0, hb3⟩
  have hln : c0'.v.len = 2 ∧ c0'.l.len = 0 := by
    have h1 := hv0.len
    have h2 := hl0.len
    simp only [Cf.says, Prod.mk.injEq] at hs0
    rw [hs0.1] at h1
    rw [hs0.2] at h2
    exact ⟨h1.symm, h2.symm⟩
  have hnew := rnew_any 0 0 c0' w3 (Cf.ok_of_own hv0 hl0) (by omega)
  have HNEW := Lib.hid hnew
  have HB3 := Lib.hid (below_then HB2.out hb3)
  have HL13 := Lib.hid (HL1.out.below hb3)
  have HS0 := Lib.hid hs0
  have hz23 := hb3.size
  clear hnew hb3 hs0 hv0 hl0 hln HL1
  go_wp2_with fail
  refine HNEW.out.mono ?_
  rintro e w4 ⟨N2, c2, rfl, hL2, hs2, hb4⟩
  rw [show clampN 0 = 0 from by decide] at hL2
  have hoff := LogOff.first (c := c1) (N := N1) hL2 (fun g hg => (HL13.out.on hg).2)
  have hz34 := hb4.size
  have HL1 := Lib.hid (HL13.out.below hb4)
  have HL2 := Lib.hid hL2
  have HB4 := Lib.hid (below_then HB3.out hb4)
  have HS2 := Lib.hid (hs2.trans HS0.out)
  have HO12 := Lib.hid hoff.1
  have HO21 := Lib.hid hoff.2
  clear hL2 hs2 hb4 HNEW HS0 HL13 hoff
  go_wp2_with fail
  refine (alive_any _).mono ?_
  rintro e w5 ⟨rfl, hb5⟩
  have hz45 := hb5.size
  have HB5 := Lib.hid (below_then HB4.out hb5)
  have HL15 := Lib.hid (HL1.out.below hb5)
  have HL25 := Lib.hid (HL2.out.below hb5)
  clear hb5 HL1 HL2
  go_wp2_with fail
  go_loopw [43] (fun i wr => ∃ (k n cp1 cp2 : Nat) (es1 es2 : List En) (ae1 ae2 : Option Addr), i = .int .i64 k ∧ k ≤ len ∧ Hid (LogAt wr w1.heap.size N1 0 0 c1 es1 ae1 n cp1) ∧ Hid (LogAt wr w3.heap.size N2 0 0 c2 es2 ae2 n cp2) ∧ Hid (Sound 0 0 es1) ∧ Hid (AllR es1) ∧ Hid (es2.map En.says = es1.map En.says) ∧ Hid (LogOff N1 c1 es1 ae1 N2 ae2) ∧ Hid (LogOff N2 c2 es2 ae2 N1 ae1) ∧ Hid (Below w.heap.size w wr) ∧ w3.heap.size ≤ wr.heap.size) (fun i _ => len - (intOf i).toNat)
  case atStart => exact ⟨0, 0, 0, 0, [], [], none, none, rfl, by omega, HL15.out, HL25.out, ⟨by omega, by omega, fun k e he => (by cases he)⟩, (fun e he => by cases he), rfl, HO12.out, HO21.out, HB5.out, by omega⟩
  case round =>
    obtain ⟨k, n, cp1, cp2, es1, es2, ae1, ae2, rfl, hk, HL1, HL2, HS, HA, HSY, HX, HY, HBW, hzw⟩ := hrel
    have hn40 : n ≤ 1099511627776 := by have := HS.out.few HA.out; rw [HL1.out.len] at this; exact this
    by_cases hlt : k < len
    · obtain ⟨u, huk⟩ : ∃ u, us[k]? = some u := ⟨_, List.getElem?_eq_getElem (by rw [HUL.out]; omega)⟩
      obtain ⟨b, off, rfl, e0, e1, e2, e3⟩ := en_at (HR.out.below HBW.out) HUL.out k hlt u huk
      have hkl : (k : Int) < (len : Int) := by omega
      have hmem := List.mem_of_getElem? huk
      have huo := HOK.out u hmem
      have hla := HS.out.last
      have hl := fun Z (hZ : Below wr.heap.size wr Z) => last_any w1.heap.size N1 0 0 c1 es1 ae1 n cp1 Z (HL1.out.below hZ) (by omega)
      have hap := fun (V : En) (X : World) (hX : Below wr.heap.size wr X) (g : Nat) (hg : EnAt X (Off N1 ae1) [V] (some ⟨g, 0, none⟩) 1) => append_any w1.heap.size N1 0 0 c1 es1 ae1 n cp1 (some ⟨g, 0, none⟩) 1 1 [V] X (HL1.out.below hX) HS.out (by omega) hg
      have haq := fun (V : En) (X : World) (hX : LogAt X w3.heap.size N2 0 0 c2 es2 ae2 n cp2) (g : Nat) (hg : EnAt X (Off N2 ae2) [V] (some ⟨g, 0, none⟩) 1) => append_any w3.heap.size N2 0 0 c2 es2 ae2 n cp2 (some ⟨g, 0, none⟩) 1 1 [V] X hX (HS.out.says HSY.out) (by omega) hg
      have hso := fun V vs h0 hs => HS.out.append (us := [V]) (vs := vs) h0 hs
      rw [last_says HSY.out 0 0] at haq
      obtain ⟨p, hp⟩ : ∃ p, p = lastOf 0 0 es1 := ⟨_, rfl⟩
      rw [← hp] at hl hla hap haq hso
      obtain ⟨li, lt⟩ := p
      simp only at hl hla hap haq hso
      rw [HL1.out.len] at hla
      have hli : li = (n : Int) := by omega
      subst hli
      have hw1 : IntKind.i64.wrap ((n : Int) + 1) = (n : Int) + 1 := by rw [IntKind.wrap_i64] <;> omega
      have hbx : Below wr.heap.size wr (wr.alloc (.cells #[.int .i64 u.ix, .int .i64 u.tm, .int .i64 u.kd, .slice u.s.a u.s.len u.s.cap] 32)) := below_alloc (Below.refl _ _) _
      have hbx2 : ∀ w2, Below (wr.alloc (.cells #[.int .i64 u.ix, .int .i64 u.tm, .int .i64 u.kd, .slice u.s.a u.s.len u.s.cap] 32)).heap.size (wr.alloc (.cells #[.int .i64 u.ix, .int .i64 u.tm, .int .i64 u.kd, .slice u.s.a u.s.len u.s.cap] 32)) w2 → w2.heap[wr.heap.size]? = some (.cells #[.int .i64 u.ix, .int .i64 u.tm, .int .i64 u.kd, .slice u.s.a u.s.len u.s.cap] 32 (0, 0)) := fun w2 hb => (hb.block _ (by rw [World.size_alloc]; omega)).trans (heap_alloc_new wr _)
      have HBX := Lib.hid hbx
      have HBX2 := Lib.hid hbx2
      have HL := Lib.hid hl
      have HAP := Lib.hid hap
      have HAQ := Lib.hid haq
      have HSO := Lib.hid hso
      have HUO := Lib.hid huo
      clear hbx hbx2 hl hap haq hso huo hmem huk hla hp
      go_wp2_with fail
      refine (HL.out _ HBX.out).mono ?_
      rintro e w6 ⟨rfl, hb6⟩
      have hB6 := HBX2.out _ hb6
      obtain ⟨⟨b0, b1, b2, b3⟩, y0, y1, y2, y3⟩ := four_cells hB6
      have hb6' := below_then HBX.out hb6
      have HB6 := Lib.hid hb6'
      have HBB6 := Lib.hid hB6
      have hz6 : wr.heap.size < w6.heap.size := lt_of_block hB6
      clear hb6 hb6' hB6
      go_wp2_with fail
      obtain ⟨tt, htt⟩ : ∃ tt, tt = wrap64 (lt + bits .and .i64 u.tm 3) := ⟨_, rfl⟩
      rw [← htt]
      obtain ⟨V, hV⟩ : ∃ V : En, V = ⟨(n : Int) + 1, tt, u.kd, u.s⟩ := ⟨_, rfl⟩
      obtain ⟨Y, hY⟩ : ∃ Y, Y = (w6.setCell ⟨wr.heap.size, 0, none⟩ (.int .i64 ((n : Int) + 1))).setCell ⟨wr.heap.size, 1, none⟩ (.int .i64 tt) := ⟨_, rfl⟩
      have hbY : Below wr.heap.size wr Y := hY ▸ below_set (below_set HB6.out _ (Nat.le_refl _)) _ (Nat.le_refl _)
      have hYb : Y.heap[wr.heap.size]? = some (.cells #[.int .i64 ((n : Int) + 1), .int .i64 tt, .int .i64 u.kd, .slice u.s.a u.s.len u.s.cap] 32 (0, 0)) := hY ▸ set_block (i := 1) (set_block (i := 0) HBB6.out _) _
      have hYs : Y.heap.size = w6.heap.size := by rw [hY]; simp
      rw [← hY]
      clear y0 y1 y2 y3 b0 b1 b2 b3 hY htt HBB6 HB6
      have hbwY := below_then HBW.out hbY
      have huY := HUO.out.below hbwY
      have hen := en_new (HL1.out.below hbY) ⟨(n : Int) + 1, tt, u.kd, u.s⟩ huY (slP_low HUO.out HL1.out (by omega))
      obtain ⟨X, hX⟩ : ∃ X, X = Y.alloc (.cells #[.int .i64 ((n : Int) + 1), .int .i64 tt, .int .i64 u.kd, .slice u.s.a u.s.len u.s.cap] 32) := ⟨_, rfl⟩
      have hbX : Below wr.heap.size wr X := hX ▸ below_alloc hbY _
      have hXb : X.heap[wr.heap.size]? = some (.cells #[.int .i64 ((n : Int) + 1), .int .i64 tt, .int .i64 u.kd, .slice u.s.a u.s.len u.s.cap] 32 (0, 0)) := by rw [hX]; exact alloc_far hYb (lt_of_block hYb)
      simp only at hen
      rw [hYs] at hen
      rw [← hX] at hen ⊢
      rw [← hV] at hen
      have HBX1 := Lib.hid hbX
      have HXB := Lib.hid hXb
      have hzX := hbX.size
      have HAP1 := HAP.out V X hbX _ hen
      have hso1 := HSO.out V
      have HV := Lib.hid hV
      clear hbY hYb hbwY huY hen hX hbX hXb hV
      obtain ⟨code, hcode⟩ : ∃ code, code = appendOf (n : Int) lt [V] := ⟨_, rfl⟩
      have haq := HAQ.out V
      rw [← hcode] at HAP1 hso1 haq
      have HAQ2 := Lib.hid haq
      have HSO2 := Lib.hid hso1
      have HCD := Lib.hid hcode
      clear hso1 haq hcode
      refine HAP1.mono ?_
      clear HAP1
      rintro e w7 ⟨rfl, hne0, h0⟩
      have HNE := Lib.hid hne0
      have H0 := Lib.hid h0
      clear hne0 h0
      by_cases hc : code = 0
      · subst hc
        obtain ⟨vs1, ae1', cp1', hsay1, hL1', hst1, hnew1⟩ := H0.out rfl
        clear H0 HNE
        have hL1' : LogAt w7 w1.heap.size N1 0 0 c1 (es1 ++ vs1) ae1' (n + 1) cp1' := hL1'
        have hL2X := HL2.out.below HBX1.out
        have hN1 := hL1'.lo
        have hlt1 : N1 < wr.heap.size := lt_of_block HL1.out.cell
        have ha1 : ∀ g, Value.ownBlock (.slice ae1 0 0) = some g → g < wr.heap.size := fun g hg => (HL1.out.on (.inr (.inr (.inr (.inl hg))))).2
        have hB7 : w7.heap[wr.heap.size]? = some (.cells #[.int .i64 ((n : Int) + 1), .int .i64 tt, .int .i64 u.kd, .slice u.s.a u.s.len u.s.cap] 32 (0, 0)) := (hst1.block _ (lt_of_block HXB.out) (by omega) (fun e => by have := ha1 _ e; omega)).trans HXB.out
        have hz7 := hst1.size
        have hb17 := (HL1.out.below HBX1.out).stepBelow hst1 (by omega)
        have hbw7 : Below w.heap.size w w7 := (below_then HBW.out HBX1.out).trans (hb17.mono hz01)
        have hL2' := hL2X.beside hst1 HY.out
        have hX' := HX.out.step hL2X hst1 hnew1
        have hY' := HY.out.other hL2X hst1
        obtain ⟨⟨b0, b1, b2, b3⟩, _⟩ := four_cells hB7
        have HL17 := Lib.hid hL1'
        have HL27 := Lib.hid hL2'
        have HBW7 := Lib.hid hbw7
        have HX7 := Lib.hid hX'
        have HY7 := Lib.hid hY'
        have HSY1 := Lib.hid hsay1
        clear hL1' hL2X hlt1 ha1 hB7 hst1 hb17 hbw7 hL2' hX' hY' hsay1 hnew1
        go_wp2_with fail
        have hen2 := en_new HL27.out ⟨(n : Int) + 1, tt, u.kd, u.s⟩ (HUO.out.below HBW7.out) (slP_low HUO.out HL27.out (by omega))
        simp only at hen2
        obtain ⟨X7, hX7⟩ : ∃ X7, X7 = w7.alloc (.cells #[.int .i64 ((n : Int) + 1), .int .i64 tt, .int .i64 u.kd, .slice u.s.a u.s.len u.s.cap] 32) := ⟨_, rfl⟩
        have hb7X : Below w7.heap.size w7 X7 := hX7 ▸ below_alloc (Below.refl _ _) _
        rw [← hX7, ← HV.out] at hen2
        rw [← hX7]
        have HAP2 := HAQ2.out X7 (HL27.out.below hb7X) _ hen2
        have HB7X := Lib.hid hb7X
        have hz7X := hb7X.size
        clear hX7 hen2 hb7X
        refine HAP2.mono ?_
        clear HAP2
        rintro e w8 ⟨rfl, -, h0⟩
        obtain ⟨vs2, ae2', cp2', hsay2, hL2', hst2, hnew2⟩ := h0 rfl
        have hL2' : LogAt w8 w3.heap.size N2 0 0 c2 (es2 ++ vs2) ae2' (n + 1) cp2' := hL2'
        have H2 := Lib.hid (And.intro hsay2 (And.intro hL2' (And.intro hst2 hnew2)))
        clear h0 hsay2 hL2' hst2 hnew2
        go_wp2_with fail
        go_roundw
        case rel =>
          obtain ⟨hsay2, hL2', hst2, hnew2⟩ := H2.out
          have hL1X := HL17.out.below HB7X.out
          have hL2X := HL27.out.below HB7X.out
          have hz8 := hst2.size
          have hb8 : Below w.heap.size w w8 := (below_then HBW7.out HB7X.out).trans ((hL2X.stepBelow hst2 (by omega)).mono (by omega))
          exact ⟨k + 1, n + 1, cp1', cp2', es1 ++ vs1, es2 ++ vs2, ae1', ae2', by go_num, by omega, hL1X.beside hst2 HX7.out, hL2', HSO2.out vs1 (by first | rfl | trivial) HSY1.out, HA.out.append HCD.out.symm HSY1.out,
            by show _ = _; rw [List.map_append, List.map_append, HSY.out, hsay2, HSY1.out], HX7.out.other hL1X hst2, HY7.out.step hL1X hst2 hnew2, hb8, by omega⟩
        case measure => simp [intOf]; omega
      · have hcf : (code == 0) = false := by simp [hc]
        have hb7 := HNE.out hc
        clear H0 HNE
        go_wp2_with fail
        go_roundw
        case rel =>
          have hb := below_then HBX1.out hb7
          exact ⟨k + 1, n, cp1, cp2, es1, es2, ae1, ae2, by go_num, by omega, HL1.out.below hb, HL2.out.below hb, HS, HA, HSY, HX, HY, below_then HBW.out hb, by have := hb.size; omega⟩
        case measure => simp [intOf]; omega
    · have hl := fun Z (hZ : Below wr.heap.size wr Z) => last_any w1.heap.size N1 0 0 c1 es1 ae1 n cp1 Z (HL1.out.below hZ) (by omega)
      have hla := HS.out.last
      rw [HL1.out.len] at hla
      obtain ⟨p, hp⟩ : ∃ p, p = lastOf 0 0 es1 := ⟨_, rfl⟩
      rw [← hp] at hl hla
      obtain ⟨li, lt⟩ := p
      simp only at hl hla
      have hli : li = (n : Int) := by omega
      subst hli
      have HL := Lib.hid hl
      have HP := Lib.hid hp
      clear hl hp hla
      obtain ⟨wo, rfl⟩ : ∃ wo, wo = wr := ⟨_, rfl⟩
      have hw1 : IntKind.i64.wrap ((n : Int) + 1) = (n : Int) + 1 := by rw [IntKind.wrap_i64] <;> omega
      go_wp2_with fail
      refine (HL.out _ (Below.refl _ _)).mono ?_
      rintro e w6 ⟨rfl, hb6⟩
      have HB6 := Lib.hid hb6
      clear hb6
      go_wp2_with fail
      obtain ⟨t0, ht0⟩ : ∃ t0, t0 = (bits .and .i64 to 1023).tmod ((n : Int) + 1) := ⟨_, rfl⟩
      obtain ⟨f0, hf0⟩ : ∃ f0, f0 = wrap64 (t0 + bits .and .i64 at' 15) := ⟨_, rfl⟩
      rw [← ht0, ← hf0]
      have hm0 : 0 ≤ bits .and .i64 to 1023 ∧ bits .and .i64 to 1023 ≤ 1023 := and_mask to 1023 (by omega)
      have hm1 : 0 ≤ bits .and .i64 at' 15 ∧ bits .and .i64 at' 15 ≤ 15 := and_mask at' 15 (by omega)
      have ht1 : 0 ≤ t0 ∧ t0 ≤ (n : Int) := by
        have h1 := Int.tmod_nonneg ((n : Int) + 1) hm0.1
        have h2 := Int.tmod_lt_of_pos (bits .and .i64 to 1023) (show (0 : Int) < (n : Int) + 1 by omega)
        rw [ht0]
        omega
      have hf1 : t0 ≤ f0 ∧ f0 ≤ t0 + 15 := by
        rw [hf0, IntWalk.wrap64_in _ (by omega)]
        omega
      clear ht0 hf0 hm0 hm1
      have hw2 : IntKind.i64.wrap (f0 + 1) = f0 + 1 := by rw [IntKind.wrap_i64] <;> omega
      have hsm1 : c1.says.1.length ≤ 1000 ∧ c1.says.2.length ≤ 1000 := by rw [HS1.out]; simp
      have hsm2 : c2.says.1.length ≤ 1000 ∧ c2.says.2.length ≤ 1000 := by rw [HS2.out]; simp
      have hc1 : c1.v.len ≤ 1000000000000 ∧ c1.l.len ≤ 1000000000000 := by
        have h1 := HL1.out.vo.len
        have h2 := HL1.out.le.len
        simp only [Cf.says] at hsm1
        omega
      have hc2 : c2.v.len ≤ 1000000000000 ∧ c2.l.len ≤ 1000000000000 := by
        have h1 := HL2.out.vo.len
        have h2 := HL2.out.le.len
        simp only [Cf.says] at hsm2
        omega
      have hlen1 := HL1.out.len
      have htin := term_in (ix := 0) (tm := 0) (es := es1) t0 ht1.1 (by omega)
      refine (dropTo_any w1.heap.size N1 0 0 c1 es1 ae1 n cp1 t0 w6 (HL1.out.below HB6.out) HS.out (by omega) hc1 htin).mono ?_
      rintro e w7 ⟨rfl, c', a', cap', hcs, hLd, hst⟩
      have hbw7 : Below w.heap.size w w7 := (below_then HBW.out HB6.out).trans (((HL1.out.below HB6.out).stepBelow hst (by have := HB6.out.size; omega)).mono hz01)
      have hLe := (HL2.out.below HB6.out).beside hst HY.out
      have HS' := HS.out.drop HA.out t0 ht1.1 (by omega)
      have HA' := HA.out.drop (t0 - 0).toNat
      have hsm' : c'.says.1.length ≤ 1000 ∧ c'.says.2.length ≤ 1000 := by rw [hcs]; exact conf_small _ _ _ _ _ hsm1 (by omega)
      have hc' : c'.v.len ≤ 1000000000000 ∧ c'.l.len ≤ 1000000000000 := by
        have h1 := hLd.vo.len
        have h2 := hLd.le.len
        simp only [Cf.says] at hsm'
        omega
      have la1 := fun Z (hZ : Below w7.heap.size w7 Z) => last_any _ _ _ _ _ _ _ _ _ Z (hLd.below hZ) (by omega)
      rw [last_drop HS.out t0 ht1.1 (by omega), ← HP.out] at la1
      have la2 := fun Z (hZ : Below w7.heap.size w7 Z) => last_any _ _ _ _ _ _ _ _ _ Z (hLe.below hZ) (by omega)
      rw [last_says HSY.out, ← HP.out] at la2
      have cf1 := fun Z (hZ : Below w7.heap.size w7 Z) => Conf_any _ _ _ _ _ _ _ _ _ Z (hLd.below hZ) (by omega) hc'
      have cf2 := fun Z (hZ : Below w7.heap.size w7 Z) => Conf_any _ _ _ _ _ _ _ _ _ Z (hLe.below hZ) (by omega) hc2
      rw [last_drop HS.out t0 ht1.1 (by omega), ← HP.out, hcs, conf_drop HS.out _ t0 _ ht1.1 (by simp only; omega), HS1.out] at cf1
      rw [last_says HSY.out, ← HP.out, conf_says HSY.out, HS2.out] at cf2
      have tm1 := fun Z (hZ : Below w7.heap.size w7 Z) => term_any _ _ _ _ _ _ _ _ _ f0 Z (hLd.below hZ) HS' (by omega)
      have tm2 := fun Z (hZ : Below w7.heap.size w7 Z) => term_any _ _ _ _ _ _ _ _ _ f0 Z (hLe.below hZ) (HS.out.says HSY.out) (by omega)
      rw [term_drop t0 f0 ht1.1 (by omega) hf1.1] at tm1
      rw [term_says HSY.out] at tm2
      have ca1 := fun Z (hZ : Below w7.heap.size w7 Z) => ConfAt_any _ _ _ _ _ _ _ _ _ f0 Z (hLd.below hZ) (by omega) hc'
      have ca2 := fun Z (hZ : Below w7.heap.size w7 Z) => ConfAt_any _ _ _ _ _ _ _ _ _ f0 Z (hLe.below hZ) (by omega) hc2
      rw [hcs, conf_drop HS.out _ t0 f0 ht1.1 hf1.1, HS1.out] at ca1
      rw [conf_says HSY.out, HS2.out] at ca2
      have en1 := fun Z (hZ : Below w7.heap.size w7 Z) => entries_any _ _ _ _ _ _ _ _ _ (f0 + 1) 100 Z (hLd.below hZ) HS' (by omega) (HA'.small hLd)
      have en2 := fun Z (hZ : Below w7.heap.size w7 Z) => entries_any _ _ _ _ _ _ _ _ _ (f0 + 1) 100 Z (hLe.below hZ) (HS.out.says HSY.out) (by omega) ((HA.out.says HSY.out).small hLe)
      rw [entries_drop t0 (f0 + 1) 100 ht1.1 (by omega) (by omega)] at en1
      have hsays := entries_says HSY.out 0 (f0 + 1) 100
      have nw1 := fun Z (hZ : Below w7.heap.size w7 Z) => newer_any _ _ _ _ _ _ _ _ _ f0 lt Z (hLd.below hZ) (by omega)
      have nw2 := fun Z (hZ : Below w7.heap.size w7 Z) => newer_any _ _ _ _ _ _ _ _ _ f0 lt Z (hLe.below hZ) (by omega)
      rw [last_drop HS.out t0 ht1.1 (by omega), ← HP.out] at nw1
      rw [last_says HSY.out, ← HP.out] at nw2
      have hsb := conf_small 0 ([1, 2], []) es1 (n : Int) 1000 (by simp) (by omega)
      have hsc := conf_small 0 ([1, 2], []) es1 f0 1000 (by simp) (by omega)
      simp only at la1 la2 cf1 cf2
      obtain ⟨x1, hx1⟩ : ∃ x, x = (confAtOf t0 (confAtOf 0 ([1, 2], []) es1 t0).1 (es1.drop (t0 - 0).toNat) (n : Int)).2 := ⟨_, rfl⟩
      rw [← hx1] at cf1
      obtain ⟨⟨Q, x2⟩, hQ⟩ : ∃ x, x = confAtOf 0 ([1, 2], []) es1 (n : Int) := ⟨_, rfl⟩
      rw [← hQ] at cf1 cf2 hsb
      obtain ⟨⟨Q', x3⟩, hQ'⟩ : ∃ x, x = confAtOf 0 ([1, 2], []) es1 f0 := ⟨_, rfl⟩
      rw [← hQ'] at ca1 ca2 hsc
      obtain ⟨⟨tv, tb⟩, htv⟩ : ∃ x, x = termOf 0 0 es1 f0 := ⟨_, rfl⟩
      rw [← htv] at tm1 tm2
      obtain ⟨us1, hus1⟩ : ∃ x, x = entriesOf 0 es1 (f0 + 1) 100 := ⟨_, rfl⟩
      rw [← hus1] at en1 hsays
      obtain ⟨us2, hus2⟩ : ∃ x, x = entriesOf 0 es2 (f0 + 1) 100 := ⟨_, rfl⟩
      rw [← hus2] at en2 hsays
      obtain ⟨nb, hnb⟩ : ∃ x, x = newerOf ((n : Int), lt) f0 lt := ⟨_, rfl⟩
      rw [← hnb] at nw1 nw2
      simp only at cf1 cf2 hsb hsc ca1 ca2 tm1 tm2
      have LA1 := Lib.hid la1
      have LA2 := Lib.hid la2
      have CF1 := Lib.hid cf1
      have CF2 := Lib.hid cf2
      have CA1 := Lib.hid ca1
      have CA2 := Lib.hid ca2
      have TM1 := Lib.hid tm1
      have TM2 := Lib.hid tm2
      have EN1 := Lib.hid en1
      have EN2 := Lib.hid en2
      have NW1 := Lib.hid nw1
      have NW2 := Lib.hid nw2
      have HSAYS := Lib.hid hsays
      have HSB := Lib.hid hsb
      have HSC := Lib.hid hsc
      have HBW7 := Lib.hid hbw7
      clear la1 la2 cf1 cf2 ca1 ca2 tm1 tm2 en1 en2 nw1 nw2 hsays hsb hsc hbw7 hx1 hQ hQ' htv hus1 hus2 hnb hLd hLe hst hcs HS' HA' hsm' hc' hc1 hc2 hsm1 hsm2 hlen1 htin HL HP HB6 HL1 HL2 HS HA HSY HX HY HS1 HS2 HO12 HO21 HL15 HL25 HB5
      go_wp2_with fail
      refine (LA1.out _ (Below.refl _ _)).mono ?_
      rintro e w8 ⟨rfl, hb8⟩
      have HB8 := Lib.hid hb8
      clear hb8
      go_wp2_with fail
      refine (LA2.out _ HB8.out).mono ?_
      rintro e w9 ⟨rfl, hb9⟩
      have HB9 := Lib.hid (below_then HB8.out hb9)
      clear hb9
      go_wp2_with fail
      refine (CF1.out _ HB9.out).mono ?_
      rintro e w10 ⟨v1, rfl, hc⟩
      obtain ⟨d1, rfl, hd1, ov1, ol1, hb10⟩ := hc.own
      clear hc
      have HB10 := Lib.hid (below_then HB9.out hb10)
      have HD1 := Lib.hid hd1
      have HC1 := Lib.hid (Cf.ok_of_own ov1 ol1)
      clear hb10 hd1 ov1 ol1
      go_wp2_with fail
      obtain ⟨A1, hA1⟩ : ∃ A1, A1 = w10.alloc (.cells #[.slice d1.v.a d1.v.len d1.v.cap, .slice d1.l.a d1.l.len d1.l.cap] 27) := ⟨_, rfl⟩
      have hb10A : Below w10.heap.size w10 A1 := hA1 ▸ below_alloc (Below.refl _ _) _
      have hB1A : A1.heap[w10.heap.size]? = some (.cells #[.slice d1.v.a d1.v.len d1.v.cap, .slice d1.l.a d1.l.len d1.l.cap] 27 (0, 0)) := hA1 ▸ heap_alloc_new w10 _
      have HBA1 := Lib.hid (below_then HB10.out hb10A)
      have HC1A := Lib.hid (HC1.out.below hb10A)
      have HK1 := Lib.hid hB1A
      rw [← hA1]
      clear hA1 hb10A hB1A
      refine (CF2.out _ HBA1.out).mono ?_
      rintro e w11 ⟨v2, rfl, hc⟩
      obtain ⟨d2, rfl, hd2, ov2, ol2, hb11⟩ := hc.own
      clear hc
      have HB11 := Lib.hid (below_then HBA1.out hb11)
      have HD2 := Lib.hid hd2
      have HC2 := Lib.hid (Cf.ok_of_own ov2 ol2)
      have HC1B := Lib.hid (HC1A.out.below hb11)
      have HK2 := Lib.hid ((hb11.block _ (lt_of_block HK1.out)).trans HK1.out)
      have hl1011 := lt_of_block HK2.out
      clear hb11 hd2 ov2 ol2
      go_wp2_with fail
      obtain ⟨A2, hA2⟩ : ∃ A2, A2 = w11.alloc (.cells #[.slice d2.v.a d2.v.len d2.v.cap, .slice d2.l.a d2.l.len d2.l.cap] 27) := ⟨_, rfl⟩
      have hb11A : Below w11.heap.size w11 A2 := hA2 ▸ below_alloc (Below.refl _ _) _
      have hB2A : A2.heap[w11.heap.size]? = some (.cells #[.slice d2.v.a d2.v.len d2.v.cap, .slice d2.l.a d2.l.len d2.l.cap] 27 (0, 0)) := hA2 ▸ heap_alloc_new w11 _
      have HBA2 := Lib.hid (below_then HB11.out hb11A)
      have HC1C := Lib.hid (HC1B.out.below hb11A)
      have HC2A := Lib.hid (HC2.out.below hb11A)
      have HK1A := Lib.hid ((hb11A.block _ hl1011).trans HK2.out)
      have HK2A := Lib.hid hB2A
      rw [← hA2]
      clear hA2 hb11A hB2A HC1 HC1A HC1B HC2 HK1 HK2
      refine (TM1.out _ HBA2.out).mono ?_
      rintro e w12 ⟨rfl, hb12⟩
      have HB12 := Lib.hid (below_then HBA2.out hb12)
      have HB12A := Lib.hid hb12
      clear hb12
      go_wp2_with fail
      refine (TM2.out _ HB12.out).mono ?_
      rintro e w13 ⟨rfl, hb13⟩
      have HB13 := Lib.hid (below_then HB12.out hb13)
      have hb13A := below_then HB12A.out hb13
      have HC13 := Lib.hid (HC1C.out.below hb13A)
      have HC23 := Lib.hid (HC2A.out.below hb13A)
      have hK1 := (hb13A.block _ (lt_of_block HK1A.out)).trans HK1A.out
      have hK2 := (hb13A.block _ (lt_of_block HK2A.out)).trans HK2A.out
      obtain ⟨z0, z1, _, _⟩ := two_cells hK1
      obtain ⟨z2, z3, _, _⟩ := two_cells hK2
      clear hb13 hb13A hK1 hK2 HK1A HK2A HC1C HC2A
      have hsm12 := confSame_any d1 d2 w13 HC13.out HC23.out (by
        have h1 := HC13.out.1.1.1
        have h2 := HC13.out.2.1.1
        rw [cellsZ_len] at h1 h2
        have h3 := HSB.out
        rw [← HD1.out] at h3
        simp only [Cf.says] at h3
        omega)
      rw [decide_eq_true (HD1.out.trans HD2.out.symm)] at hsm12
      have HSM12 := Lib.hid hsm12
      clear hsm12 HC13 HC23 HD1 HD2 HSB
      go_wp2_with fail
      refine HSM12.out.mono ?_
      rintro e w14 ⟨rfl, hb14⟩
      have HB14 := Lib.hid (below_then HB13.out hb14)
      clear hb14 z0 z1 z2 z3
      go_wp2_with fail
      refine (CA1.out _ HB14.out).mono ?_
      rintro e w15 hc
      obtain ⟨d3, rfl, hd3, ov3, ol3, hb15⟩ := hc
      have HB15 := Lib.hid (below_then HB14.out hb15)
      have HD3 := Lib.hid hd3
      have HC3 := Lib.hid (Cf.ok_of_own ov3 ol3)
      clear hb15 hd3 ov3 ol3
      go_wp2_with fail
      refine (CA2.out _ HB15.out).mono ?_
      rintro e w16 hc
      obtain ⟨d4, rfl, hd4, ov4, ol4, hb16⟩ := hc
      have hsm34 := confSame_any d3 d4 w16 (HC3.out.below hb16) (Cf.ok_of_own ov4 ol4) (by
        have h1 := HC3.out.1.1.1
        have h2 := HC3.out.2.1.1
        rw [cellsZ_len] at h1 h2
        have h3 := HSC.out
        rw [← HD3.out] at h3
        simp only [Cf.says] at h3
        omega)
      rw [decide_eq_true (HD3.out.trans hd4.symm)] at hsm34
      have HB16 := Lib.hid (below_then HB15.out hb16)
      have HSM34 := Lib.hid hsm34
      clear hb16 hd4 ov4 ol4 hsm34 HSC HC3 HD3
      go_wp2_with fail
      refine HSM34.out.mono ?_
      rintro e w17 ⟨rfl, hb17⟩
      have HB17 := Lib.hid (below_then HB16.out hb17)
      clear hb17
      go_wp2_with fail
      refine (EN1.out _ HB17.out).mono ?_
      rintro e w18 ⟨ls1, ao1, cq1, rfl, hls1, hoe1, hb18⟩
      have HB18 := Lib.hid (below_then HB17.out hb18)
      have HLS1 := Lib.hid hls1
      have HOE1 := Lib.hid hoe1
      clear hb18 hls1 hoe1
      go_wp2_with fail
      refine (EN2.out _ HB18.out).mono ?_
      rintro e w19 ⟨ls2, ao2, cq2, rfl, hls2, hoe2, hb19⟩
      have hes := esame_any ao1 ao2 us1.length us2.length cq1 cq2 ls1 ls2 w19 (HOE1.out.enR.below hb19) hoe2.enR (by
        have := OwnE.cap HOE1.out
        omega)
      rw [decide_eq_true (HLS1.out.trans (HSAYS.out.symm.trans hls2.symm))] at hes
      have HES := Lib.hid hes
      have HB19 := Lib.hid (below_then HB18.out hb19)
      clear hb19 hls2 hoe2 hes HOE1 HLS1 HSAYS
      go_wp2_with fail
      refine HES.out.mono ?_
      rintro e w20 ⟨rfl, q20, rfl⟩
      go_wp2_with fail
      refine (NW1.out _ (below_drewN HB19.out _)).mono ?_
      rintro e w21 ⟨rfl, hb21⟩
      have HB21 := Lib.hid (below_then (below_drewN HB19.out _) hb21)
      clear hb21
      go_wp2_with fail
      refine (NW2.out _ HB21.out).mono ?_
      rintro e w22 ⟨rfl, hb22⟩
      have HB22 := Lib.hid (below_then HB21.out hb22)
      clear hb22
      go_wp2_with fail
      go_ret
      exact ⟨rfl, below_then HBW7.out HB22.out⟩
end Go.Proofs.Ytpaommkjafdghaa
