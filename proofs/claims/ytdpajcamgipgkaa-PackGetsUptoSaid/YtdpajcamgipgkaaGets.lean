/- PackGets: all bytes are these kinds' values, or aren't: the walk. -/
import Derived.Test.YtdpajcamgipgkaaRefGet
namespace Go.Proofs.Ytdpajcamgipgkaa
open Go.RowKit

/-- Only blocks from B1 up to B2, and new ones, may have turned. -/
structure Mid (B1 B2 : Nat) (w w' : World) : Prop where
  os : w'.os = w.os
  tape : w'.tape = w.tape
  output : w'.output = w.output
  size : w.heap.size ≤ w'.heap.size
  block : ∀ k, k < w.heap.size → (k < B1 ∨ B2 ≤ k) → w'.heap[k]? = w.heap[k]?
theorem Mid.refl (B1 B2 : Nat) (w : World) : Mid B1 B2 w w := ⟨rfl, rfl, rfl, Nat.le_refl _, fun _ _ _ => rfl⟩
theorem Mid.trans {B1 B2 : Nat} {a b c : World} (h : Mid B1 B2 a b) (k : Mid B1 B2 b c) : Mid B1 B2 a c :=
  ⟨k.os.trans h.os, k.tape.trans h.tape, k.output.trans h.output, Nat.le_trans h.size k.size, fun i hi hn => (k.block i (Nat.lt_of_lt_of_le hi h.size) hn).trans (h.block i hi hn)⟩
theorem Mid.alloc (B1 B2 : Nat) (w : World) (o : Obj) : Mid B1 B2 w (w.alloc o) := ⟨rfl, rfl, rfl, by simp, fun _ hk _ => heap_alloc_old w o hk⟩
theorem Mid.set (B1 B2 : Nat) (w : World) (g i : Nat) (v : Value) (h1 : B1 ≤ g) (h2 : g < B2) : Mid B1 B2 w (w.setCell ⟨g, i, none⟩ v) :=
  ⟨rfl, rfl, rfl, by simp [World.setCell], fun k _ hn => Below.heap_setCell w _ _ k (by simp; omega)⟩

/-- the values' state while their bytes are overwritten -/
structure Over (B1 B2 : Nat) (wX : World) (vs : List Vl) (ao : Option Addr) (n cap : Nat) (w : World) : Prop where
  mid : Mid B1 B2 wX w
  row : w.ownsRow B1 63 5 (.slice ao n cap) n (vs.flatMap Vl.cells)
  own : ∀ v ∈ vs, ∃ bs, Own8 w B1 v.s.a v.s.len v.s.cap bs
theorem Over.alloc {B1 B2 : Nat} {wX : World} {vs : List Vl} {ao : Option Addr} {n cap : Nat} {w : World} (h : Over B1 B2 wX vs ao n cap w) (o : Obj) : Over B1 B2 wX vs ao n cap (w.alloc o) :=
  ⟨h.mid.trans (Mid.alloc _ _ _ _), own_keep h.row fun g _ hl => heap_alloc_old w o hl, fun v hv => by
    obtain ⟨bs, hb⟩ := h.own v hv
    exact ⟨bs, own_keep hb fun g _ hl => heap_alloc_old w o hl⟩⟩
theorem Over.set {B1 B2 : Nat} {wX : World} {vs : List Vl} {ao : Option Addr} {n cap : Nat} {w : World} (h : Over B1 B2 wX vs ao n cap w) {g len c i : Nat} {bs : List UInt8} (hg : Own8 w B1 (some ⟨g, 0, none⟩) len c bs) (hg2 : g < B2) (b : UInt8) :
    Over B1 B2 wX vs ao n cap (w.setCell ⟨g, i, none⟩ (.int .u8 (b.toNat : Nat))) := by
  have hgb := (hg.lt g rfl).1
  refine ⟨h.mid.trans (Mid.set _ _ _ _ _ _ hgb hg2), own_keep h.row fun k hk _ => Below.heap_setCell w _ _ k (fun e => ?_), fun v hv => ?_⟩
  · simp only at e
    subst e
    exact own_apart hg h.row (by decide) k rfl hk
  · obtain ⟨us, hu⟩ := h.own v hv
    rcases hu.2 with ⟨h1, h2⟩ | ⟨g2, cp, cur, h1, _⟩
    · refine ⟨us, hu.1, .inl ⟨h1, h2⟩⟩
    · injection h1 with h1 h2 h3
      by_cases hgg : g2 = g
      · subst hgg
        rw [h1] at hu ⊢
        exact ⟨_, hu.store i b⟩
      · refine ⟨us, own_keep hu fun k hk _ => Below.heap_setCell w _ _ k (fun e => ?_)⟩
        rw [h1] at hk
        injection hk with hk
        simp only at e hk
        omega

theorem getV_fine {zs : List Int} {bs : List UInt8} {ps : List Pv} {c : Nat} (h : getV zs bs = (ps, c)) : (∀ p ∈ ps, p.fine) ∧ ps.length ≤ zs.length := by
  by_cases hc : c = 0
  · subst hc
    obtain ⟨h1, h2⟩ := getV_ok h
    obtain ⟨qs, e1, e2, _, e4⟩ := bytes_getAcc zs h1 bs [] [] ps h2
    rw [List.nil_append] at e1
    subst e1
    exact ⟨e4, by rw [← e2, List.length_map]; exact Nat.le_refl _⟩
  · have := getV_no h hc
    subst this
    exact ⟨(fun p hp => by cases hp), Nat.zero_le _⟩

set_option maxRecDepth 100000 in
set_option maxHeartbeats 6400000 in
theorem packGets_walk (a : Option Addr) (len cap : Nat) (bs : List UInt8) (az : Option Addr) (nz cz : Nat) (zs : List Int) (w : World) (hr : Row8 w a len bs) (hlc : len ≤ cap) (hcm : cap ≤ maxLen) (hn : a = none → cap = 0)
    (hrow : RowN w az 1 nz (cellsI zs)) (hzc : nz ≤ cz) (_hzm : cz ≤ maxLen) (_hzn : az = none → cz = 0) (hbulk : cap + cz ≤ 1048576) :
    Calls Try.prog 11 #[.slice a len cap, .slice az nz cz] w fun e w' => e = .returned (.bool true) ∧ Below w.heap.size w w' := by
  have hstf := store_float
  have hbits := bits64
  have hl : zs.length = nz := by have := hrow.1; rw [cellsI_len] at this; omega
  have hget := fun w' (hb : Below w.heap.size w w') => get_any a len cap bs az nz cz zs w' (hr.below hb) hlc hcm hn (hrow.below hb) (by omega)
  have hrget := fun w' (hb : Below w.heap.size w w') => refGet_any a len cap bs az nz cz zs w' (hr.below hb) hlc hcm (hrow.below hb) (by omega)
  obtain ⟨ps, c, hp⟩ : ∃ ps c, getV zs bs = (ps, c) := ⟨_, _, rfl⟩
  obtain ⟨hfine, hpl⟩ := getV_fine hp
  rw [hp] at hget hrget
  have hpn : ps.length ≤ 1048576 := by omega
  have HGET := Lib.hid hget
  have HRGET := Lib.hid hrget
  have HFINE := Lib.hid hfine
  have HPN := Lib.hid hpn
  clear hget hrget hfine hpl hp hr hrow hl hpn
  go_enter Try.func11, Try.ntmps11
  go_wp2_with fail
  refine (getting_any _).mono ?_
  rintro e w1 ⟨rfl, hb1⟩
  have hz1 := hb1.size
  go_wp2_with fail
  refine (HGET.out w1 hb1).mono ?_
  rintro e w2 ⟨vs, ao, n, cap2, rfl, hpv, hO, hb2⟩
  simp only at hpv
  have hbw2 := hb1.trans (hb2.mono hz1)
  have hz2 := hb2.size
  go_wp2_with fail
  refine (HRGET.out w2 hbw2).mono ?_
  rintro e w3 ⟨us, ao3, n3, cap3, rfl, hpu, hO3, hb3⟩
  simp only at hpu
  have hbw3 := hbw2.trans (hb3.mono (Nat.le_trans hz1 hz2))
  have hz3 := hb3.size
  have hnn : vs.length = us.length := by
    have h1 := congrArg List.length hpv
    have h2 := congrArg List.length hpu
    rw [List.length_map] at h1 h2
    omega
  obtain rfl : n3 = n := by rw [← hO.len, ← hO3.len, hnn]
  have hn6 : n3 ≤ 1048576 := by
    have h1 := congrArg List.length hpv
    rw [List.length_map, hO.len] at h1
    have := HPN.out
    omega
  have hfv : ∀ v ∈ vs, v.pv.fine := fun v hv => HFINE.out _ (by rw [← hpv]; exact List.mem_map_of_mem hv)
  have hfu : ∀ v ∈ us, v.pv.fine := fun v hv => HFINE.out _ (by rw [← hpu]; exact List.mem_map_of_mem hv)
  have hO' := hO.keep (w' := w3) fun g _ hl => hb3.block g hl
  have hsm := same_pvs hpv hpu (fun p hp => (HFINE.out p hp).fit)
  have HVOK := Lib.hid (hO'.ok fun v hv => (hfv v hv).fit)
  have HUOK := Lib.hid (hO3.ok fun v hv => (hfu v hv).fit)
  have HVR := Lib.hid (RowN.of_own hO'.row)
  have HUR := Lib.hid (RowN.of_own hO3.row)
  have HVL := Lib.hid hO.len
  have HUL := Lib.hid hO3.len
  have HSM := Lib.hid hsm
  have HFV := Lib.hid hfv
  have HPV := Lib.hid hpv
  have HPU := Lib.hid hpu
  have HO' := Lib.hid hO'
  have HO2 := Lib.hid hO
  have HO3 := Lib.hid hO3
  have HB3 := Lib.hid hb3
  have HBW3 := Lib.hid hbw3
  clear hb1 hb2 hb3 hbw2 hbw3 hpv hpu hO hO3 hO' hfv hfu hsm hnn
  have hcc : ((c : Int) == (c : Int)) = true := by simp
  go_wp2_with fail
  refine (of_len ao n3 cap2 vs w3 HVR.out HVL.out (by omega)).mono ?_
  rintro e w4 ⟨ao4, c4, rfl, hown4, hb4⟩
  have hz4 := hb4.size
  go_wp2_with fail
  refine (refSame_any ao4 ao3 n3 c4 cap3 vs us w4 (RowN.of_own hown4) HVL.out (fun u hu => ⟨(HVOK.out u hu).1.below hb4, (HVOK.out u hu).2⟩) (HUR.out.below hb4) HUL.out (fun u hu => ⟨(HUOK.out u hu).1.below hb4, (HUOK.out u hu).2⟩) HSM.out (by omega)).mono ?_
  rintro e w5 ⟨rfl, hb5⟩
  have hb35 := hb4.trans (hb5.mono hz4)
  have hz5 := hb35.size
  have hover : Over w1.heap.size w2.heap.size w5 vs ao n3 cap2 w5 := ⟨Mid.refl _ _ _, own_keep HO'.out.row fun g _ hl => hb35.block g hl, fun v hv => ⟨_, own_keep (HO'.out.own v hv) fun g _ hl => hb35.block g hl⟩⟩
  have hlow : ∀ v ∈ vs, ∀ g, Value.ownBlock (.slice v.s.a v.s.len v.s.cap) = some g → g < w2.heap.size := fun v hv g hg => ((HO2.out.own v hv).lt g hg).2
  have HLOW := Lib.hid hlow
  have HOVER := Lib.hid hover
  have HB35 := Lib.hid hb35
  clear hown4 hb4 hb5 hb35 hover hlow
  go_wp2_with fail
  go_loopw [40] (fun i wr => ∃ j : Nat, j ≤ n3 ∧ i = .int .i64 j ∧ Over w1.heap.size w2.heap.size w5 vs ao n3 cap2 wr) (fun i _ => n3 - (intOf i).toNat)
  case atStart => exact ⟨0, by omega, rfl, HOVER.out⟩
  case round =>
    obtain ⟨j, hj, rfl, hov⟩ := hrel
    have hzr := hov.mid.size
    have HOV := Lib.hid hov
    by_cases hlt : j < n3
    · obtain ⟨v, hv⟩ : ∃ v, vs[j]? = some v := ⟨_, List.getElem?_eq_getElem (by rw [HVL.out]; exact hlt)⟩
      have hmem := List.mem_of_getElem? hv
      obtain ⟨b, off, rfl, hc0, hc1, hc2, hc3, hc4⟩ := vals_at (RowN.of_own hov.row) HVL.out j hlt v hv
      have hfi := HFV.out v hmem
      have hlo := HLOW.out v hmem
      have hov2 := hov.alloc (.cells #[.int .i64 v.kind, .int .i64 v.n, .float .f64 v.x, .slice v.s.a v.s.len v.s.cap, .bool v.on] 63)
      have hx64 : v.x < 18446744073709551616 := hfi.fit.x
      have hcan : decide (Flo.canon v.x = v.x) = true := decide_eq_true hfi.canon
      have hsl : v.s.bs.length = v.s.len := (HO2.out.own v hmem).length
      have hkd := hfi.fit.k
      have hz : (v.kind ≠ 1 → v.n = 0) ∧ (v.kind ≠ 2 → v.x = 0) ∧ (v.kind ≠ 3 → v.s.len = 0) ∧ (v.kind ≠ 4 → v.on = false) :=
        ⟨hfi.n, hfi.x, fun h => by rw [← hsl, show v.s.bs = [] from hfi.b h]; rfl, hfi.on⟩
      have hownv : ∀ wq, Over w1.heap.size w2.heap.size w5 vs (some ⟨b, off, none⟩) n3 cap2 wq → ∃ bs, Own8 wq w1.heap.size v.s.a v.s.len v.s.cap bs := fun wq h => h.own v hmem
      have HLO := Lib.hid hlo
      have HOV2 := Lib.hid hov2
      have HCAN := Lib.hid hcan
      have HX64 := Lib.hid hx64
      have HZ := Lib.hid hz
      have HOWNV := Lib.hid hownv
      obtain ⟨kd, nn, xx, ss, oo⟩ := v
      simp only [Sl.val] at hc0 hc1 hc2 hc3 hc4
      simp only [Vl.pv] at hkd
      have hk4 : kd = 1 ∨ kd = 2 ∨ kd = 3 ∨ kd = 4 := by omega
      have hjl : (j : Int) < (n3 : Int) := by omega
      clear hov hv hmem hfi hlo hov2 hcan hx64 hz hownv hsl hkd
      rcases hk4 with rfl | rfl | rfl | rfl
      · obtain rfl : xx = 0 := HZ.out.2.1 (by simp)
        have hl0 : ss.len = 0 := HZ.out.2.2.1 (by simp)
        obtain rfl : oo = false := HZ.out.2.2.2 (by simp)
        obtain ⟨sa, sl, sc, sb⟩ := ss
        simp only at hl0
        subst hl0
        go_wp2_with fail
        refine (refForm_any _ _ HX64.out).mono ?_
        rintro e wf ⟨rfl, rfl⟩
        rw [HCAN.out]
        obtain ⟨wo, rfl⟩ : ∃ wo, wo = wr := ⟨_, rfl⟩
        have hbox := heap_alloc_new wo (.cells #[.int .i64 1, .int .i64 nn, .float .f64 0, .slice sa 0 sc, .bool false] 63)
        have HBOX := Lib.hid hbox
        clear hbox
        go_wp2_with fail
        go_loopw [95] (fun i wq => ∃ m : Nat, m ≤ 0 ∧ i = .int .i64 m ∧ Over w1.heap.size w2.heap.size w5 vs (some ⟨b, off, none⟩) n3 cap2 wq ∧ Hid (wq.heap[wo.heap.size]? = some (.cells #[.int .i64 1, .int .i64 nn, .float .f64 0, .slice sa 0 sc, .bool false] 63 (0, 0)))) (fun i _ => 0 - (intOf i).toNat)
        case atStart => exact ⟨0, by omega, rfl, HOV2.out, HBOX⟩
        case round =>
          obtain ⟨m, hm, rfl, hovq, HBX⟩ := hrel
          have HOVQ := Lib.hid hovq
          · obtain rfl : m = 0 := by omega
            clear hovq
            go_wp2_with fail
            go_roundw
            case rel => exact ⟨j + 1, by omega, by go_num, HOVQ.out⟩
            case measure => simp [intOf]; omega
      · obtain rfl : nn = 0 := HZ.out.1 (by simp)
        have hl0 : ss.len = 0 := HZ.out.2.2.1 (by simp)
        obtain rfl : oo = false := HZ.out.2.2.2 (by simp)
        obtain ⟨sa, sl, sc, sb⟩ := ss
        simp only at hl0
        subst hl0
        go_wp2_with fail
        refine (refForm_any _ _ HX64.out).mono ?_
        rintro e wf ⟨rfl, rfl⟩
        rw [HCAN.out]
        obtain ⟨wo, rfl⟩ : ∃ wo, wo = wr := ⟨_, rfl⟩
        have hbox := heap_alloc_new wo (.cells #[.int .i64 2, .int .i64 0, .float .f64 xx, .slice sa 0 sc, .bool false] 63)
        have HBOX := Lib.hid hbox
        clear hbox
        go_wp2_with fail
        go_loopw [95] (fun i wq => ∃ m : Nat, m ≤ 0 ∧ i = .int .i64 m ∧ Over w1.heap.size w2.heap.size w5 vs (some ⟨b, off, none⟩) n3 cap2 wq ∧ Hid (wq.heap[wo.heap.size]? = some (.cells #[.int .i64 2, .int .i64 0, .float .f64 xx, .slice sa 0 sc, .bool false] 63 (0, 0)))) (fun i _ => 0 - (intOf i).toNat)
        case atStart => exact ⟨0, by omega, rfl, HOV2.out, HBOX⟩
        case round =>
          obtain ⟨m, hm, rfl, hovq, HBX⟩ := hrel
          have HOVQ := Lib.hid hovq
          · obtain rfl : m = 0 := by omega
            clear hovq
            go_wp2_with fail
            go_roundw
            case rel => exact ⟨j + 1, by omega, by go_num, HOVQ.out⟩
            case measure => simp [intOf]; omega
      · obtain rfl : nn = 0 := HZ.out.1 (by simp)
        obtain rfl : xx = 0 := HZ.out.2.1 (by simp)
        obtain rfl : oo = false := HZ.out.2.2.2 (by simp)
        obtain ⟨sa, sl, sc, sb⟩ := ss
        go_wp2_with fail
        refine (refForm_any _ _ HX64.out).mono ?_
        rintro e wf ⟨rfl, rfl⟩
        rw [HCAN.out]
        obtain ⟨wo, rfl⟩ : ∃ wo, wo = wr := ⟨_, rfl⟩
        have hbox := heap_alloc_new wo (.cells #[.int .i64 3, .int .i64 0, .float .f64 0, .slice sa sl sc, .bool false] 63)
        have HBOX := Lib.hid hbox
        clear hbox
        go_wp2_with fail
        go_loopw [95] (fun i wq => ∃ m : Nat, m ≤ sl ∧ i = .int .i64 m ∧ Over w1.heap.size w2.heap.size w5 vs (some ⟨b, off, none⟩) n3 cap2 wq ∧ Hid (wq.heap[wo.heap.size]? = some (.cells #[.int .i64 3, .int .i64 0, .float .f64 0, .slice sa sl sc, .bool false] 63 (0, 0)))) (fun i _ => sl - (intOf i).toNat)
        case atStart => exact ⟨0, by omega, rfl, HOV2.out, HBOX⟩
        case round =>
          obtain ⟨m, hm, rfl, hovq, HBX⟩ := hrel
          have HOVQ := Lib.hid hovq
          by_cases hms : m < sl
          · obtain ⟨bq, hob⟩ := HOWNV.out wr hovq
            obtain ⟨g, rfl, hbg, hgl⟩ := hob.addr (by omega)
            obtain ⟨cc, _, _, hcell, hfree⟩ := hob.at m hms
            have hg2 : g < w2.heap.size := HLO.out g rfl
            obtain ⟨x0, x1, x2, x3, x4, _⟩ := five_cells HBX.out
            have hne : wo.heap.size ≠ g := by have := HOV.out.mid.size; have := HB35.out.size; omega
            have hmsi : (m : Int) < (sl : Int) := by omega
            have hslm : sl ≤ 9223372036854775807 := by have h1 := hob.cap.1; have h2 := hob.cap.2; simp only [maxLen] at h2; omega
            have HOB := Lib.hid hob
            clear hovq hob
            go_wp2_with fail
            go_roundw
            case rel => exact ⟨m + 1, by omega, by go_num, HOVQ.out.set HOB.out hg2 7, (Below.heap_setCell wr _ _ wo.heap.size (by simpa using hne)).trans HBX.out⟩
            case measure => simp [intOf]; omega
          · have hme : m = sl := by omega
            subst hme
            clear hovq
            go_wp2_with fail
            go_roundw
            case rel => exact ⟨j + 1, by omega, by go_num, HOVQ.out⟩
            case measure => simp [intOf]; omega
      · obtain rfl : nn = 0 := HZ.out.1 (by simp)
        obtain rfl : xx = 0 := HZ.out.2.1 (by simp)
        have hl0 : ss.len = 0 := HZ.out.2.2.1 (by simp)
        obtain ⟨sa, sl, sc, sb⟩ := ss
        simp only at hl0
        subst hl0
        go_wp2_with fail
        refine (refForm_any _ _ HX64.out).mono ?_
        rintro e wf ⟨rfl, rfl⟩
        rw [HCAN.out]
        obtain ⟨wo, rfl⟩ : ∃ wo, wo = wr := ⟨_, rfl⟩
        have hbox := heap_alloc_new wo (.cells #[.int .i64 4, .int .i64 0, .float .f64 0, .slice sa 0 sc, .bool oo] 63)
        have HBOX := Lib.hid hbox
        clear hbox
        go_wp2_with fail
        go_loopw [95] (fun i wq => ∃ m : Nat, m ≤ 0 ∧ i = .int .i64 m ∧ Over w1.heap.size w2.heap.size w5 vs (some ⟨b, off, none⟩) n3 cap2 wq ∧ Hid (wq.heap[wo.heap.size]? = some (.cells #[.int .i64 4, .int .i64 0, .float .f64 0, .slice sa 0 sc, .bool oo] 63 (0, 0)))) (fun i _ => 0 - (intOf i).toNat)
        case atStart => exact ⟨0, by omega, rfl, HOV2.out, HBOX⟩
        case round =>
          obtain ⟨m, hm, rfl, hovq, HBX⟩ := hrel
          have HOVQ := Lib.hid hovq
          · obtain rfl : m = 0 := by omega
            clear hovq
            go_wp2_with fail
            go_roundw
            case rel => exact ⟨j + 1, by omega, by go_num, HOVQ.out⟩
            case measure => simp [intOf]; omega
    · have hke : j = n3 := by omega
      subst hke
      have hz5w : w.heap.size ≤ w5.heap.size := Nat.le_trans HBW3.out.size HB35.out.size
      have hbw5 : Below w.heap.size w w5 := HBW3.out.trans (HB35.out.mono HBW3.out.size)
      have hbwr : Below w.heap.size w wr := hbw5.trans ⟨hov.mid.os, hov.mid.tape, hov.mid.output, hov.mid.size, fun k hk => hov.mid.block k (by omega) (.inl (by omega))⟩
      have hO3r : OwnR wr w2.heap.size us ao3 j cap3 := (HO3.out.keep (w' := w5) fun g _ hl => HB35.out.block g hl).keep fun g hb hl => hov.mid.block g hl (.inr hb)
      have hzw := hbwr.size
      have HO3R := Lib.hid hO3r
      have HBWR := Lib.hid hbwr
      have hgo := HGET.out wr hbwr
      have HGO := Lib.hid hgo
      clear hov hbw5 hbwr hO3r hgo
      go_wp2_with fail
      refine HGO.out.mono ?_
      rintro e w6 ⟨vs6, ao6, n6, cap6, rfl, hpv6, hO6, hb6⟩
      simp only at hpv6
      have hnn : vs6.length = us.length := by
        have h1 := congrArg List.length hpv6
        have h2 := congrArg List.length HPU.out
        rw [List.length_map] at h1 h2
        omega
      obtain rfl : j = n6 := by rw [← hO6.len, hnn]; exact HUL.out.symm
      have hf6 : ∀ v ∈ vs6, v.pv.fine := fun v hv => HFINE.out _ (by rw [← hpv6]; exact List.mem_map_of_mem hv)
      have hf3 : ∀ v ∈ us, v.pv.fine := fun v hv => HFINE.out _ (by rw [← HPU.out]; exact List.mem_map_of_mem hv)
      have hsm := same_pvs hpv6 HPU.out (fun p hp => (HFINE.out p hp).fit)
      have hO36 := HO3R.out.keep (w' := w6) fun g _ hl => hb6.block g hl
      have hz6 := hb6.size
      have HV6 := Lib.hid (hO6.ok fun v hv => (hf6 v hv).fit)
      have HU6 := Lib.hid (hO36.ok fun v hv => (hf3 v hv).fit)
      have HR6 := Lib.hid (RowN.of_own hO6.row)
      have HRU6 := Lib.hid (RowN.of_own hO36.row)
      have HL6 := Lib.hid hO6.len
      have HS6 := Lib.hid hsm
      have HBW6 := Lib.hid (HBWR.out.trans (hb6.mono hzw))
      clear hpv6 hO6 hb6 hnn hf6 hf3 hsm hO36
      go_wp2_with fail
      refine (of_len ao6 j cap6 vs6 w6 HR6.out HL6.out (by omega)).mono ?_
      rintro e w7 ⟨ao7, c7, rfl, hown7, hb7⟩
      have hz7 := hb7.size
      go_wp2_with fail
      refine (refSame_any ao7 ao3 j c7 cap3 vs6 us w7 (RowN.of_own hown7) HL6.out (fun u hu => ⟨(HV6.out u hu).1.below hb7, (HV6.out u hu).2⟩) (HRU6.out.below hb7) HUL.out (fun u hu => ⟨(HU6.out u hu).1.below hb7, (HU6.out u hu).2⟩) HS6.out (by omega)).mono ?_
      rintro e w8 ⟨rfl, hb8⟩
      have hbw8 := HBW6.out.trans ((hb7.trans (hb8.mono hz7)).mono (Nat.le_trans hzw hz6))
      clear hown7 hb7 hb8
      go_wp2_with fail
      go_ret
      exact ⟨rfl, hbw8⟩
end Go.Proofs.Ytdpajcamgipgkaa
