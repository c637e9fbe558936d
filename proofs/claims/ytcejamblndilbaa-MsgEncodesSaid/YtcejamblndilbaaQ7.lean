/- The document's Payload. -/
import Derived.Test.YtcejamblndilbaaQ4
import Derived.Test.YtcejamblndilbaaPl3
import Derived.Deep.RegionHeld3
namespace Go.Proofs.Ytcejamblndilbaa
open Go.RowKit

theorem row8_lt {w : World} {a : Option Addr} {len : Nat} {bs : List UInt8} (h : Row8 w a len bs) : ∀ b off, a = some ⟨b, off, none⟩ → 0 < len → b < w.heap.size := by
  intro b off he hl
  obtain ⟨b', off', ha, c, _, _, hc⟩ := h.at 0 hl
  rw [ha] at he
  simp only [Option.some.injEq, Addr.mk.injEq] at he
  obtain ⟨rfl, _, _⟩ := he
  exact World.block_lt_of_cell? w _ hc
theorem own_ge {w : World} {B : Nat} {ao : Option Addr} {n cap : Nat} {bs : List UInt8} (h : Own8 w B ao n cap bs) : ∀ g, Value.ownBlock (.slice ao n cap) = some g → B ≤ g := fun g hg => (h.block g hg).1
def hd4 (x : Pm) : List UInt8 := [] ++ numBytes x.kind ++ numBytes x.fr ++ numBytes x.dst ++ numBytes x.term
theorem encP_hd (x : Pm) : encP x = hd4 x ++ ecNum x := by simp [encP, hd4]
def PayPost (w : World) (bs : List UInt8) (e : Ending) (w' : World) : Prop := ∃ ao n cap, e = .returned (.slice ao n cap) ∧ Own8 w' w.heap.size ao n cap bs ∧ Below w.heap.size w w'
theorem pay13 {x : Pm} (h : Fits x) (hk : x.kind = 1 ∨ x.kind = 3) : encP x = hd4 x ++ numBytes x.index ++ numBytes x.logTerm := by
  have hn : x.p = ⟨true, true, false, false, false, false, false, false, false⟩ := by rcases hk with hk | hk <;> simp [Pm.p, namesOf, hk]
  have he := h.ents (by rw [hn])
  rw [encP_hd]
  simp [ecNum, ecNum2, ecNum3, ecOk, ecEnts, ecEs, ecOff, ecData, ecLast, ecConf, ifB, hn, he]
theorem pay24 {x : Pm} (h : Fits x) (hk : x.kind = 2 ∨ x.kind = 4) : encP x = hd4 x ++ flagB x.ok := by
  have hn : x.p = ⟨false, false, false, true, false, false, false, false, false⟩ := by rcases hk with hk | hk <;> simp [Pm.p, namesOf, hk]
  have he := h.ents (by rw [hn])
  rw [encP_hd]
  simp [ecNum, ecNum2, ecNum3, ecOk, ecEnts, ecEs, ecOff, ecData, ecLast, ecConf, ifB, hn, he]
theorem pay5 {x : Pm} (hk : x.kind = 5) : encP x = hd4 x ++ numBytes x.index ++ numBytes x.logTerm ++ numBytes x.commit ++ numBytes (x.es.length : Nat) ++ x.es.flatMap entB := by
  have hn : x.p = ⟨true, true, true, false, true, false, false, false, false⟩ := by simp [Pm.p, namesOf, hk]
  rw [encP_hd]
  simp [ecNum, ecNum2, ecNum3, ecOk, ecEnts, ecEs, ecOff, ecData, ecLast, ecConf, ifB, hn]
theorem pay6 {x : Pm} (h : Fits x) (hk : x.kind = 6) : encP x = hd4 x ++ numBytes x.index ++ flagB x.ok := by
  have hn : x.p = ⟨true, false, false, true, false, false, false, false, false⟩ := by simp [Pm.p, namesOf, hk]
  have he := h.ents (by rw [hn])
  rw [encP_hd]
  simp [ecNum, ecNum2, ecNum3, ecOk, ecEnts, ecEs, ecOff, ecData, ecLast, ecConf, ifB, hn, he]
theorem pay7 {x : Pm} (h : Fits x) (hk : x.kind = 7) : encP x = hd4 x ++ numBytes x.index ++ numBytes x.logTerm ++ numBytes x.off ++ lenB x.d ++ flagB x.last ++ lenB (cBytes x.v x.l).1 := by
  have hn : x.p = ⟨true, true, false, false, false, true, true, true, true⟩ := by simp [Pm.p, namesOf, hk]
  have he := h.ents (by rw [hn])
  rw [encP_hd]
  simp [ecNum, ecNum2, ecNum3, ecOk, ecEnts, ecEs, ecOff, ecData, ecLast, ecConf, ifB, hn, he]
theorem pay8 {x : Pm} (h : Fits x) (hk : x.kind = 8) : encP x = hd4 x ++ numBytes x.index ++ numBytes x.off ++ flagB x.last := by
  have hn : x.p = ⟨true, false, false, false, false, true, false, true, false⟩ := by simp [Pm.p, namesOf, hk]
  have he := h.ents (by rw [hn])
  rw [encP_hd]
  simp [ecNum, ecNum2, ecNum3, ecOk, ecEnts, ecEs, ecOff, ecData, ecLast, ecConf, ifB, hn, he]

theorem flat_ents : ∀ (l : List En), (∀ e ∈ l, e.s.bs.length ≤ 4096) → ((l.map En.plain).flatMap entB).length ≤ 5000 * l.length
  | [], _ => by simp
  | e :: r, h => by
    have h0 := flat_ents r fun x hx => h x (List.mem_cons_of_mem _ hx)
    have h1 := h e (List.mem_cons_self ..)
    have q1 := numBytes_len e.tm
    have q2 := numBytes_len e.kd
    have q3 := numBytes_len (e.s.bs.length : Nat)
    have h2 : (entB (En.plain e)).length ≤ 5000 := by
      unfold entB lenB En.plain
      simp only [List.length_append]
      omega
    rw [List.map_cons, List.flatMap_cons, List.length_append, List.length_cons]
    omega
theorem conf_then {B : Nat} {y yc yz : World} {a aF ac : Option Addr} {n c nF cF nc cc : Nat} {bs0 cb : List UInt8} (h0 : Own8 y B a n c bs0) (hc : Own8 yc y.heap.size ac nc cc cb)
    (hg : yc.grownBy yz (Value.ownBlock (.slice a n c))) (hat : Value.ownBlock (.slice aF nF cF) = Value.ownBlock (.slice a n c) ∨ ∃ g, Value.ownBlock (.slice aF nF cF) = some g ∧ yc.heap.size ≤ g) :
    Row8 yz ac nc cb ∧ ∀ b off, ac = some ⟨b, off, none⟩ → 0 < nc → b < yz.heap.size ∧ Value.ownBlock (.slice aF nF cF) ≠ some b := by
  have hlt : ∀ b off, ac = some ⟨b, off, none⟩ → 0 < nc → y.heap.size ≤ b ∧ b < yc.heap.size := fun b off he hn => by
    obtain ⟨g, h1, h2, h3⟩ := hc.addr hn
    rw [he] at h1
    simp only [Option.some.injEq, Addr.mk.injEq] at h1
    obtain ⟨rfl, _⟩ := h1
    exact ⟨h2, h3⟩
  refine ⟨?_, fun b off he hn => ⟨by have := hlt b off he hn; have := hg.size; omega, fun hw => ?_⟩⟩
  · by_cases hn : 0 < nc
    · exact hc.row.grown hg fun b off he hw => by have := hlt b off he hn; have := (h0.block b hw).2; omega
    · have := hc.length
      have hn0 : nc = 0 := by omega
      subst hn0
      exact ⟨this, fun i hi => absurd hi (by omega)⟩
  · have h1 := hlt b off he hn
    rcases hat with h | ⟨g, h, h3⟩
    · have := (h0.block b (h ▸ hw)).2; omega
    · rw [h] at hw; injection hw with hw; omega
theorem then_conf {B : Nat} {yf yz : World} {aF ac : Option Addr} {nF cF nc cc : Nat} {bs cb : List UInt8} (h0 : Own8 yf B aF nF cF bs) (hc : Own8 yz yf.heap.size ac nc cc cb) :
    Row8 yz ac nc cb ∧ ∀ b off, ac = some ⟨b, off, none⟩ → 0 < nc → b < yz.heap.size ∧ Value.ownBlock (.slice aF nF cF) ≠ some b := by
  refine ⟨hc.row, fun b off he hn => ?_⟩
  obtain ⟨g, h1, h2, h3⟩ := hc.addr hn
  rw [he] at h1
  simp only [Option.some.injEq, Addr.mk.injEq] at h1
  obtain ⟨rfl, _⟩ := h1
  exact ⟨h3, fun hw => by have := (h0.block b hw).2; omega⟩

set_option maxRecDepth 100000 in
set_option maxHeartbeats 32000000 in
theorem payload_any (m : Ms) (w : World) (hm : MsOk w m) (hr : rightM m = true) :
    Calls Try.prog 35 #[.agg m.cs] w (PayPost w (encP m.plain)) := by
  have hfit := fits_right (x := m.plain) (by rw [← rightM_plain hm]; exact hr)
  have hkr : 1 ≤ m.kind ∧ m.kind ≤ 8 := (right_facts hr).1
  obtain ⟨X, hX⟩ : ∃ X, X = w.alloc (.cells m.cs 28) := ⟨_, rfl⟩
  have hXb : Below w.heap.size w X := hX ▸ below_alloc (Below.refl _ _) _
  have hs : X.heap.size = w.heap.size + 1 := by rw [hX, World.size_alloc]
  have hA : X.heap[w.heap.size]? = some (.cells m.cs 28 (0, 0)) := hX ▸ heap_alloc_new w _
  have hce : ∀ Z, Below X.heap.size X Z → Z.heap[w.heap.size]? = some (.cells m.cs 28 (0, 0)) := fun Z hZ => (hZ.block _ (by omega)).trans hA
  obtain ⟨enc, henc⟩ : ∃ enc, enc = encP m.plain := ⟨_, rfl⟩
  rw [← henc]
  obtain ⟨post, hpost⟩ : ∃ post, post = PayPost w enc := ⟨_, rfl⟩
  rw [← hpost]
  have hfin : ∀ (ao : Option Addr) (n cap : Nat) (w' : World) (bs : List UInt8), Own8 w' X.heap.size ao n cap bs → Below X.heap.size X w' → enc = bs → post (.returned (.slice ao n cap)) w' := fun ao n cap w' bs h1 h2 h3 => by
    rw [hpost]; subst h3; exact ⟨ao, n, cap, rfl, h1.more (by omega), below_then hXb h2⟩
  have hmX := hm.below hXb
  have HFIN := Lib.hid hfin
  have HX := Lib.hid hX
  have HXB := Lib.hid hXb
  have HS := Lib.hid hs
  have HCE := Lib.hid hce
  have HENC := Lib.hid henc
  have HFIT := Lib.hid hfit
  have HM := Lib.hid hmX
  clear hfin hX hXb hs hA hce henc hpost hfit hm hr hmX
  obtain ⟨kind, fr, tt, term, index, logTerm, commit, ok, ea, en, ecap, es, off, d, last, c⟩ := m
  simp only [Ms.cs] at HX hkr ⊢
  have l0 := numBytes_len kind
  have l1 := numBytes_len fr
  have l2 := numBytes_len tt
  have l3 := numBytes_len term
  have l4 := numBytes_len index
  have l5 := numBytes_len logTerm
  have l6 := numBytes_len commit
  have l7 := numBytes_len off
  have r0 : -9223372036854775808 ≤ kind ∧ kind ≤ 9223372036854775807 := by have h : 0 ≤ kind ∧ kind ≤ 8 := HFIT.out.head.1; omega
  have r1 : -9223372036854775808 ≤ fr ∧ fr ≤ 9223372036854775807 := by have h : 0 ≤ fr ∧ fr ≤ 7 := HFIT.out.head.2.1; omega
  have r2 : -9223372036854775808 ≤ tt ∧ tt ≤ 9223372036854775807 := by have h : 0 ≤ tt ∧ tt ≤ 7 := HFIT.out.head.2.2; omega
  have r3 : -9223372036854775808 ≤ term ∧ term ≤ 9223372036854775807 := HFIT.out.nums.2.2.2
  have r4 : -9223372036854775808 ≤ index ∧ index ≤ 9223372036854775807 := HFIT.out.nums.2.2.1
  have r5 : -9223372036854775808 ≤ logTerm ∧ logTerm ≤ 9223372036854775807 := HFIT.out.nums.2.1
  have r6 : -9223372036854775808 ≤ commit ∧ commit ≤ 9223372036854775807 := HFIT.out.nums.1
  have r7 : -9223372036854775808 ≤ off ∧ off ≤ 9223372036854775807 := HFIT.out.offr
  have HR := Lib.hid (And.intro r0 (And.intro r1 (And.intro r2 (And.intro r3 (And.intro r4 (And.intro r5 (And.intro r6 r7)))))))
  clear r0 r1 r2 r3 r4 r5 r6 r7
  go_enter Try.func35, Try.ntmps35
  go_upto_region 1 with fail
  rw [← HX.out]
  have HY0 := Lib.hid (Below.refl X.heap.size X).drew
  have HO0 := Lib.hid (Own8.nil X.drew X.heap.size)
  have hS0 : ∀ Z, Below X.heap.size X Z → (Z.cell? ⟨w.heap.size, 0, none⟩ = some (.int .i64 kind) ∧ Z.cell? ⟨w.heap.size, 1, none⟩ = some (.int .i64 fr) ∧ Z.cell? ⟨w.heap.size, 2, none⟩ = some (.int .i64 tt) ∧ Z.cell? ⟨w.heap.size, 3, none⟩ = some (.int .i64 term)) := fun Z hZ => by
    obtain ⟨b0, b1, b2, b3, b4, b5, b6, b7, b8, b9, b10, b11, b12, b13⟩ := ms_cells (HCE.out Z hZ)
    exact ⟨b0, b1, b2, b3⟩
  have HS0 := Lib.hid hS0
  clear hS0
  go_region_held3 (fun w' => w'.cell? ⟨w.heap.size, 0, none⟩ = some (.int .i64 kind) ∧ w'.cell? ⟨w.heap.size, 1, none⟩ = some (.int .i64 fr) ∧ w'.cell? ⟨w.heap.size, 2, none⟩ = some (.int .i64 tt) ∧ w'.cell? ⟨w.heap.size, 3, none⟩ = some (.int .i64 term))
    (first | exact HS0.out _ HY4.out | exact HS0.out _ HY3.out | exact HS0.out _ HY2.out | exact HS0.out _ HY1.out | exact HS0.out _ HY0.out | go_keep)
    (first
      | (go_at_call 70; refine (num17_any X _ _ _ _ _ _ HY3.out HO3.out (by have hq := HO3.out.length; simp at hq; omega) HR.out.2.2.2.1).mono ?_; rintro e y4 ⟨a4, n4, c4, rfl, ho, hb, _, _⟩; have HY4 := Lib.hid hb; have HO4 := Lib.hid ho; clear ho hb)
      | (go_at_call 70; refine (num17_any X _ _ _ _ _ _ HY2.out HO2.out (by have hq := HO2.out.length; simp at hq; omega) HR.out.2.2.1).mono ?_; rintro e y3 ⟨a3, n3, c3, rfl, ho, hb, _, _⟩; have HY3 := Lib.hid hb; have HO3 := Lib.hid ho; clear ho hb)
      | (go_at_call 70; refine (num17_any X _ _ _ _ _ _ HY1.out HO1.out (by have hq := HO1.out.length; simp at hq; omega) HR.out.2.1).mono ?_; rintro e y2 ⟨a2, n2, c2, rfl, ho, hb, _, _⟩; have HY2 := Lib.hid hb; have HO2 := Lib.hid ho; clear ho hb)
      | (go_at_call 70; refine (num17_any X _ _ _ _ _ _ HY0.out HO0.out (by have hq := HO0.out.length; simp at hq; omega) HR.out.1).mono ?_; rintro e y1 ⟨a1, n1, c1, rfl, ho, hb, _, _⟩; have HY1 := Lib.hid hb; have HO1 := Lib.hid ho; clear ho hb))
  clear HO0 HO1 HO2 HO3 HY0 HY1 HY2 HY3
  obtain ⟨b0, b1, b2, b3, b4, b5, b6, b7, b8, b9, b10, b11, b12, b13⟩ := ms_cells (HCE.out _ HY4.out)
  simp only at b0 b1 b2 b3 b4 b5 b6 b7 b8 b9 b10 b11 b12 b13
  by_cases k1 : kind = 1
  · subst k1
    go_upto_region 5 with fail
    have hY5 := HY4.out.trans ((Below.refl _ y4).drew.mono HY4.out.size)
    have hO5 := HO4.out.below (Below.refl _ y4).drew (Nat.le_refl _)
    have HY5 := Lib.hid hY5
    have HO5 := Lib.hid hO5
    clear hY5 hO5
    have hS1 : ∀ Z, Below X.heap.size X Z → (Z.cell? ⟨w.heap.size, 4, none⟩ = some (.int .i64 index) ∧ Z.cell? ⟨w.heap.size, 5, none⟩ = some (.int .i64 logTerm)) := fun Z hZ => by
      obtain ⟨b0, b1, b2, b3, b4, b5, b6, b7, b8, b9, b10, b11, b12, b13⟩ := ms_cells (HCE.out Z hZ)
      exact ⟨b4, b5⟩
    have HS1 := Lib.hid hS1
    clear hS1
    go_region_held3 (fun w' => w'.cell? ⟨w.heap.size, 4, none⟩ = some (.int .i64 index) ∧ w'.cell? ⟨w.heap.size, 5, none⟩ = some (.int .i64 logTerm))
      (first | exact HS1.out _ HY7.out | exact HS1.out _ HY6.out | exact HS1.out _ HY5.out | go_keep)
      (first
        | (go_at_call 70; refine (num17_any X _ _ _ _ _ _ HY6.out HO6.out (by have hq := HO6.out.length; simp at hq; omega) HR.out.2.2.2.2.2.1).mono ?_; rintro e y7 ⟨a7, n7, c7, rfl, ho, hb, _, _⟩; have HY7 := Lib.hid hb; have HO7 := Lib.hid ho; clear ho hb)
        | (go_at_call 70; refine (num17_any X _ _ _ _ _ _ HY5.out HO5.out (by have hq := HO5.out.length; simp at hq; omega) HR.out.2.2.2.2.1).mono ?_; rintro e y6 ⟨a6, n6, c6, rfl, ho, hb, _, _⟩; have HY6 := Lib.hid hb; have HO6 := Lib.hid ho; clear ho hb))
    go_wp2_with fail
    exact HFIN.out _ _ _ _ _ HO7.out HY7.out (by rw [HENC.out, pay13 HFIT.out (.inl rfl)]; rfl)
  by_cases k3 : kind = 3
  · subst k3
    go_upto_region 5 with fail
    have hY5 := HY4.out.trans ((Below.refl _ y4).drew.mono HY4.out.size)
    have hO5 := HO4.out.below (Below.refl _ y4).drew (Nat.le_refl _)
    have HY5 := Lib.hid hY5
    have HO5 := Lib.hid hO5
    clear hY5 hO5
    have hS3 : ∀ Z, Below X.heap.size X Z → (Z.cell? ⟨w.heap.size, 4, none⟩ = some (.int .i64 index) ∧ Z.cell? ⟨w.heap.size, 5, none⟩ = some (.int .i64 logTerm)) := fun Z hZ => by
      obtain ⟨b0, b1, b2, b3, b4, b5, b6, b7, b8, b9, b10, b11, b12, b13⟩ := ms_cells (HCE.out Z hZ)
      exact ⟨b4, b5⟩
    have HS3 := Lib.hid hS3
    clear hS3
    go_region_held3 (fun w' => w'.cell? ⟨w.heap.size, 4, none⟩ = some (.int .i64 index) ∧ w'.cell? ⟨w.heap.size, 5, none⟩ = some (.int .i64 logTerm))
      (first | exact HS3.out _ HY7.out | exact HS3.out _ HY6.out | exact HS3.out _ HY5.out | go_keep)
      (first
        | (go_at_call 70; refine (num17_any X _ _ _ _ _ _ HY6.out HO6.out (by have hq := HO6.out.length; simp at hq; omega) HR.out.2.2.2.2.2.1).mono ?_; rintro e y7 ⟨a7, n7, c7, rfl, ho, hb, _, _⟩; have HY7 := Lib.hid hb; have HO7 := Lib.hid ho; clear ho hb)
        | (go_at_call 70; refine (num17_any X _ _ _ _ _ _ HY5.out HO5.out (by have hq := HO5.out.length; simp at hq; omega) HR.out.2.2.2.2.1).mono ?_; rintro e y6 ⟨a6, n6, c6, rfl, ho, hb, _, _⟩; have HY6 := Lib.hid hb; have HO6 := Lib.hid ho; clear ho hb))
    go_wp2_with fail
    exact HFIN.out _ _ _ _ _ HO7.out HY7.out (by rw [HENC.out, pay13 HFIT.out (.inr rfl)]; rfl)
  by_cases k2 : kind = 2
  · subst k2
    go_wp2_with fail
    refine (flag17_any X _ _ _ _ _ _ HY4.out HO4.out (by have hq := HO4.out.length; simp at hq; omega)).mono ?_
    rintro e y5 ⟨a5, n5, c5, rfl, ho, hb, _, _⟩
    have HY5 := Lib.hid hb
    have HO5 := Lib.hid ho
    clear ho hb
    go_wp2_with fail
    exact HFIN.out _ _ _ _ _ HO5.out HY5.out (by rw [HENC.out, pay24 HFIT.out (.inl rfl)]; rfl)
  by_cases k4 : kind = 4
  · subst k4
    go_wp2_with fail
    refine (flag17_any X _ _ _ _ _ _ HY4.out HO4.out (by have hq := HO4.out.length; simp at hq; omega)).mono ?_
    rintro e y5 ⟨a5, n5, c5, rfl, ho, hb, _, _⟩
    have HY5 := Lib.hid hb
    have HO5 := Lib.hid ho
    clear ho hb
    go_wp2_with fail
    exact HFIN.out _ _ _ _ _ HO5.out HY5.out (by rw [HENC.out, pay24 HFIT.out (.inr rfl)]; rfl)
  by_cases k6 : kind = 6
  · subst k6
    go_upto_region 18 with fail
    have hY5 := HY4.out.trans ((Below.refl _ y4).drew.mono HY4.out.size)
    have hO5 := HO4.out.below (Below.refl _ y4).drew (Nat.le_refl _)
    have HY5 := Lib.hid hY5
    have HO5 := Lib.hid hO5
    clear hY5 hO5
    have hS6 : ∀ Z, Below X.heap.size X Z → (Z.cell? ⟨w.heap.size, 4, none⟩ = some (.int .i64 index) ∧ Z.cell? ⟨w.heap.size, 7, none⟩ = some (.bool ok)) := fun Z hZ => by
      obtain ⟨b0, b1, b2, b3, b4, b5, b6, b7, b8, b9, b10, b11, b12, b13⟩ := ms_cells (HCE.out Z hZ)
      exact ⟨b4, b7⟩
    have HS6 := Lib.hid hS6
    clear hS6
    go_region_held3 (fun w' => w'.cell? ⟨w.heap.size, 4, none⟩ = some (.int .i64 index) ∧ w'.cell? ⟨w.heap.size, 7, none⟩ = some (.bool ok))
      (first | exact HS6.out _ HY7.out | exact HS6.out _ HY6.out | exact HS6.out _ HY5.out | go_keep)
      (first
        | (go_at_call 71; refine (flag17_any X _ _ _ _ _ _ HY6.out HO6.out (by have hq := HO6.out.length; simp at hq; omega)).mono ?_; rintro e y7 ⟨a7, n7, c7, rfl, ho, hb, _, _⟩; have HY7 := Lib.hid hb; have HO7 := Lib.hid ho; clear ho hb)
        | (go_at_call 70; refine (num17_any X _ _ _ _ _ _ HY5.out HO5.out (by have hq := HO5.out.length; simp at hq; omega) HR.out.2.2.2.2.1).mono ?_; rintro e y6 ⟨a6, n6, c6, rfl, ho, hb, _, _⟩; have HY6 := Lib.hid hb; have HO6 := Lib.hid ho; clear ho hb))
    go_wp2_with fail
    exact HFIN.out _ _ _ _ _ HO7.out HY7.out (by rw [HENC.out, pay6 HFIT.out rfl]; rfl)
  by_cases k8 : kind = 8
  · subst k8
    go_upto_region 22 with fail
    have hY5 := HY4.out.trans ((Below.refl _ y4).drew.mono HY4.out.size)
    have hO5 := HO4.out.below (Below.refl _ y4).drew (Nat.le_refl _)
    have HY5 := Lib.hid hY5
    have HO5 := Lib.hid hO5
    clear hY5 hO5
    have hS8 : ∀ Z, Below X.heap.size X Z → (Z.cell? ⟨w.heap.size, 4, none⟩ = some (.int .i64 index) ∧ Z.cell? ⟨w.heap.size, 9, none⟩ = some (.int .i64 off) ∧ Z.cell? ⟨w.heap.size, 11, none⟩ = some (.bool last)) := fun Z hZ => by
      obtain ⟨b0, b1, b2, b3, b4, b5, b6, b7, b8, b9, b10, b11, b12, b13⟩ := ms_cells (HCE.out Z hZ)
      exact ⟨b4, b9, b11⟩
    have HS8 := Lib.hid hS8
    clear hS8
    go_region_held3 (fun w' => w'.cell? ⟨w.heap.size, 4, none⟩ = some (.int .i64 index) ∧ w'.cell? ⟨w.heap.size, 9, none⟩ = some (.int .i64 off) ∧ w'.cell? ⟨w.heap.size, 11, none⟩ = some (.bool last))
      (first | exact HS8.out _ HY8.out | exact HS8.out _ HY7.out | exact HS8.out _ HY6.out | exact HS8.out _ HY5.out | go_keep)
      (first
        | (go_at_call 71; refine (flag17_any X _ _ _ _ _ _ HY7.out HO7.out (by have hq := HO7.out.length; simp at hq; omega)).mono ?_; rintro e y8 ⟨a8, n8, c8, rfl, ho, hb, _, _⟩; have HY8 := Lib.hid hb; have HO8 := Lib.hid ho; clear ho hb)
        | (go_at_call 70; refine (num17_any X _ _ _ _ _ _ HY6.out HO6.out (by have hq := HO6.out.length; simp at hq; omega) HR.out.2.2.2.2.2.2.2).mono ?_; rintro e y7 ⟨a7, n7, c7, rfl, ho, hb, _, _⟩; have HY7 := Lib.hid hb; have HO7 := Lib.hid ho; clear ho hb)
        | (go_at_call 70; refine (num17_any X _ _ _ _ _ _ HY5.out HO5.out (by have hq := HO5.out.length; simp at hq; omega) HR.out.2.2.2.2.1).mono ?_; rintro e y6 ⟨a6, n6, c6, rfl, ho, hb, _, _⟩; have HY6 := Lib.hid hb; have HO6 := Lib.hid ho; clear ho hb))
    go_wp2_with fail
    exact HFIN.out _ _ _ _ _ HO8.out HY8.out (by rw [HENC.out, pay8 HFIT.out rfl]; rfl)
  have hdat : ∀ Z, Below X.heap.size X Z → Row8 Z d.a d.len d.bs := fun Z hZ => (HM.out.below hZ).data.1
  have hapd : ∀ b off, d.a = some ⟨b, off, none⟩ → 0 < d.len → b < X.heap.size := row8_lt HM.out.data.1
  have hdl : d.len ≤ 4096 := by have h1 := HFIT.out.dlen; have h2 : d.bs.length = d.len := HM.out.data.1.1; have h3 : d.bs.length ≤ 4096 := h1; omega
  have hdb : d.bs.length ≤ 4096 := HFIT.out.dlen
  have HDAT := Lib.hid hdat
  have HAPD := Lib.hid hapd
  clear hdat hapd
  by_cases k7 : kind = 7
  · subst k7
    go_upto_region 20 with fail
    have lD := numBytes_len (d.bs.length : Nat)
    have hY5 := HY4.out.trans ((Below.refl _ y4).drew.mono HY4.out.size)
    have hO5 := HO4.out.below (Below.refl _ y4).drew (Nat.le_refl _)
    have HY5 := Lib.hid hY5
    have HO5 := Lib.hid hO5
    clear hY5 hO5
    have hS7 : ∀ Z, Below X.heap.size X Z → (Z.cell? ⟨w.heap.size, 4, none⟩ = some (.int .i64 index) ∧ Z.cell? ⟨w.heap.size, 5, none⟩ = some (.int .i64 logTerm) ∧ Z.cell? ⟨w.heap.size, 9, none⟩ = some (.int .i64 off) ∧ Z.cell? ⟨w.heap.size, 10, none⟩ = some (.slice d.a d.len d.cap)) := fun Z hZ => by
      obtain ⟨b0, b1, b2, b3, b4, b5, b6, b7, b8, b9, b10, b11, b12, b13⟩ := ms_cells (HCE.out Z hZ)
      exact ⟨b4, b5, b9, b10⟩
    have HS7 := Lib.hid hS7
    clear hS7
    go_region_held3 (fun w' => w'.cell? ⟨w.heap.size, 4, none⟩ = some (.int .i64 index) ∧ w'.cell? ⟨w.heap.size, 5, none⟩ = some (.int .i64 logTerm) ∧ w'.cell? ⟨w.heap.size, 9, none⟩ = some (.int .i64 off) ∧ w'.cell? ⟨w.heap.size, 10, none⟩ = some (.slice d.a d.len d.cap))
      (first | exact HS7.out _ HY9.out | exact HS7.out _ HY8.out | exact HS7.out _ HY7.out | exact HS7.out _ HY6.out | exact HS7.out _ HY5.out | go_keep)
      (first
        | (go_at_call 72; refine (bytes17_any X _ _ _ _ _ _ _ _ _ HY8.out HO8.out (by have hq := HO8.out.length; simp at hq; omega) (HDAT.out _ HY8.out) (fun b off he h0 => ⟨by have := HAPD.out b off he h0; have := HY8.out.size; omega, fun hw => by have := HAPD.out b off he h0; have := own_ge HO8.out b hw; omega⟩) (by omega)).mono ?_; rintro e y9 ⟨a9, n9, c9, rfl, ho, hb, _, _⟩; have HY9 := Lib.hid hb; have HO9 := Lib.hid ho; clear ho hb)
        | (go_at_call 70; refine (num17_any X _ _ _ _ _ _ HY7.out HO7.out (by have hq := HO7.out.length; simp at hq; omega) HR.out.2.2.2.2.2.2.2).mono ?_; rintro e y8 ⟨a8, n8, c8, rfl, ho, hb, _, _⟩; have HY8 := Lib.hid hb; have HO8 := Lib.hid ho; clear ho hb)
        | (go_at_call 70; refine (num17_any X _ _ _ _ _ _ HY6.out HO6.out (by have hq := HO6.out.length; simp at hq; omega) HR.out.2.2.2.2.2.1).mono ?_; rintro e y7 ⟨a7, n7, c7, rfl, ho, hb, _, _⟩; have HY7 := Lib.hid hb; have HO7 := Lib.hid ho; clear ho hb)
        | (go_at_call 70; refine (num17_any X _ _ _ _ _ _ HY5.out HO5.out (by have hq := HO5.out.length; simp at hq; omega) HR.out.2.2.2.2.1).mono ?_; rintro e y6 ⟨a6, n6, c6, rfl, ho, hb, _, _⟩; have HY6 := Lib.hid hb; have HO6 := Lib.hid ho; clear ho hb))
    go_upto_region 21 with fail
    have hY10 := HY9.out.trans ((Below.refl _ y9).drew.mono HY9.out.size)
    have hO10 := HO9.out.below (Below.refl _ y9).drew (Nat.le_refl _)
    have HY10 := Lib.hid hY10
    have HO10 := Lib.hid hO10
    clear hY10 hO10
    have hcr : confRight c.v.zs c.l.zs = true := HFIT.out.c1 rfl
    have hcl := cBytes_len c.v.zs c.l.zs
    have hconf : ∀ Z, Below X.heap.size X Z → _ := fun Z hZ => bytes15_any c Z ⟨(HM.out.below hZ).cv, (HM.out.below hZ).cl⟩ hcr
    have HCONF := Lib.hid hconf
    have hn10 : n9 ≤ 10000000 := by have hq := HO9.out.length; simp [lenB] at hq; omega
    have hS : ∀ Z, Below X.heap.size X Z → (Z.cell? ⟨w.heap.size, 11, none⟩ = some (.bool last) ∧ Z.cell? ⟨w.heap.size, 12, none⟩ = some (.slice c.v.a c.v.len c.v.cap) ∧ Z.cell? ⟨w.heap.size, 13, none⟩ = some (.slice c.l.a c.l.len c.l.cap)) := fun Z hZ => by
      obtain ⟨b0, b1, b2, b3, b4, b5, b6, b7, b8, b9, b10, b11, b12, b13⟩ := ms_cells (HCE.out Z hZ)
      exact ⟨b11, b12, b13⟩
    have HSS := Lib.hid hS
    have HCL := Lib.hid hcl
    clear hS hconf hcr hcl
    go_region_held3 (fun w' => w'.cell? ⟨w.heap.size, 11, none⟩ = some (.bool last) ∧ w'.cell? ⟨w.heap.size, 12, none⟩ = some (.slice c.v.a c.v.len c.v.cap) ∧ w'.cell? ⟨w.heap.size, 13, none⟩ = some (.slice c.l.a c.l.len c.l.cap))
      (first | exact HSS.out _ HYZ.out | exact HSS.out _ HYP.out | exact HSS.out _ HYF.out | exact HSS.out _ HYC.out | exact HSS.out _ HY10.out | go_keep)
      (first
        | (go_at_call 72; refine (bytes17_any X _ _ _ _ _ _ _ _ _ HYP.out HOP.out (by have hq := HOP.out.length; simp [flagB, lenB] at hq; omega) HCR.out.1 HCR.out.2 (by have := HCL.out; omega)).mono ?_; rintro e yz ⟨az, nz, cz, rfl, ho, hb, _, _⟩; have HYZ := Lib.hid hb; have HOZ := Lib.hid ho; clear ho hb)
        | (go_at_call 71; refine (flag17_any X _ _ _ _ _ _ HYC.out HOC.out (by omega)).mono ?_; rintro e yf ⟨af, nf, cf, rfl, ho, hb, hg, hat⟩; have HYP := Lib.hid hb; have HOP := Lib.hid ho; have HCR := Lib.hid (conf_then HO10.out HCO.out hg hat); clear ho hb hg hat)
        | (go_at_call 73; refine (HCONF.out _ HYF.out).mono ?_; rintro e yc ⟨ac, nc, cc, rfl, ho, hb⟩; have HYP := Lib.hid (below_then HYF.out hb); have HOP := Lib.hid (HOF.out.below hb (Nat.le_refl _)); have HCR := Lib.hid (then_conf HOF.out ho); have hncl : nc ≤ 160 := (by have := ho.length; have := HCL.out; omega); clear ho hb)
        | (go_at_call 71; refine (flag17_any X _ _ _ _ _ _ HY10.out HO10.out (by omega)).mono ?_; rintro e yf ⟨af, nf, cf, rfl, ho, hb, hg, hat⟩; have HYF := Lib.hid hb; have HOF := Lib.hid ho; clear ho hb hg hat)
        | (go_at_call 73; refine (HCONF.out _ HY10.out).mono ?_; rintro e yc ⟨ac, nc, cc, rfl, ho, hb⟩; have HYC := Lib.hid (below_then HY10.out hb); have HOC := Lib.hid (HO10.out.below hb (Nat.le_refl _)); have HCO := Lib.hid ho; have hncl : nc ≤ 160 := (by have := ho.length; have := HCL.out; omega); clear ho hb))
    all_goals
      go_wp2_with fail
      exact HFIN.out _ _ _ _ _ HOZ.out HYZ.out (by rw [HENC.out, pay7 HFIT.out rfl]; rfl)
  have k5 : kind = 5 := by omega
  subst k5
  clear k1 k2 k3 k4 k6 k7 k8
  go_upto_region 10 with fail
  have hY5 := HY4.out.trans ((Below.refl _ y4).drew.mono HY4.out.size)
  have hO5 := HO4.out.below (Below.refl _ y4).drew (Nat.le_refl _)
  have HY5 := Lib.hid hY5
  have HO5 := Lib.hid hO5
  clear hY5 hO5
  have hel : es.length = en := HM.out.len
  have he8 : es.length ≤ 8 := by have h1 := HFIT.out.few; have h2 : (es.map En.plain).length ≤ 8 := h1; rw [List.length_map] at h2; exact h2
  have hen : en ≤ 8 := by omega
  have HEL := Lib.hid hel
  clear hel he8
  have lN := numBytes_len (en : Int)
  have hS5 : ∀ Z, Below X.heap.size X Z → (Z.cell? ⟨w.heap.size, 4, none⟩ = some (.int .i64 index) ∧ Z.cell? ⟨w.heap.size, 5, none⟩ = some (.int .i64 logTerm) ∧ Z.cell? ⟨w.heap.size, 6, none⟩ = some (.int .i64 commit) ∧ Z.cell? ⟨w.heap.size, 8, none⟩ = some (.slice ea en ecap)) := fun Z hZ => by
    obtain ⟨b0, b1, b2, b3, b4, b5, b6, b7, b8, b9, b10, b11, b12, b13⟩ := ms_cells (HCE.out Z hZ)
    exact ⟨b4, b5, b6, b8⟩
  have HS5 := Lib.hid hS5
  clear hS5
  go_region_held3 (fun w' => w'.cell? ⟨w.heap.size, 4, none⟩ = some (.int .i64 index) ∧ w'.cell? ⟨w.heap.size, 5, none⟩ = some (.int .i64 logTerm) ∧ w'.cell? ⟨w.heap.size, 6, none⟩ = some (.int .i64 commit) ∧ w'.cell? ⟨w.heap.size, 8, none⟩ = some (.slice ea en ecap))
    (first | exact HS5.out _ HY9.out | exact HS5.out _ HY8.out | exact HS5.out _ HY7.out | exact HS5.out _ HY6.out | exact HS5.out _ HY5.out | go_keep)
    (first
      | (go_at_call 70; refine (num17_any X _ _ _ _ _ _ HY8.out HO8.out (by have hq := HO8.out.length; simp at hq; omega) (by omega)).mono ?_; rintro e y9 ⟨a9, n9, c9, rfl, ho, hb, _, _⟩; have HY9 := Lib.hid hb; have HO9 := Lib.hid ho; clear ho hb)
      | (go_at_call 70; refine (num17_any X _ _ _ _ _ _ HY7.out HO7.out (by have hq := HO7.out.length; simp at hq; omega) HR.out.2.2.2.2.2.2.1).mono ?_; rintro e y8 ⟨a8, n8, c8, rfl, ho, hb, _, _⟩; have HY8 := Lib.hid hb; have HO8 := Lib.hid ho; clear ho hb)
      | (go_at_call 70; refine (num17_any X _ _ _ _ _ _ HY6.out HO6.out (by have hq := HO6.out.length; simp at hq; omega) HR.out.2.2.2.2.2.1).mono ?_; rintro e y7 ⟨a7, n7, c7, rfl, ho, hb, _, _⟩; have HY7 := Lib.hid hb; have HO7 := Lib.hid ho; clear ho hb)
      | (go_at_call 70; refine (num17_any X _ _ _ _ _ _ HY5.out HO5.out (by have hq := HO5.out.length; simp at hq; omega) HR.out.2.2.2.2.1).mono ?_; rintro e y6 ⟨a6, n6, c6, rfl, ho, hb, _, _⟩; have HY6 := Lib.hid hb; have HO6 := Lib.hid ho; clear ho hb))
  obtain ⟨H, hH⟩ : ∃ H, H = [] ++ numBytes 5 ++ numBytes fr ++ numBytes tt ++ numBytes term ++ numBytes index ++ numBytes logTerm ++ numBytes commit ++ numBytes (en : Int) := ⟨_, rfl⟩
  have hHl : H.length ≤ 100 := by rw [hH]; simp; omega
  have ho9 := HO9.out
  rw [← hH] at ho9
  have HO := Lib.hid ho9
  have HH := Lib.hid hH
  have hpl : ∀ k, ((es.take k).map En.plain).flatMap entB = ((es.map En.plain).take k).flatMap entB := fun k => by rw [List.map_take]
  have hsmall : ∀ k, (((es.take k).map En.plain).flatMap entB).length ≤ 5000 * k := fun k => Nat.le_trans (flat_ents (es.take k) fun e he => (HFIT.out.each (En.plain e) (List.mem_map_of_mem (List.mem_of_mem_take he))).2.2) (by have := List.length_take_le k es; omega)
  have HSM := Lib.hid hsmall
  clear ho9 hH hpl hsmall HO9 HO8 HO7 HO6 HO5 HO4 HY4 HY5 HY6 HY7 HY8 b0 b1 b2 b3 b4 b5 b6 b7 b8 b9 b10 b11 b12 b13
  go_wp2_with fail
  go_loopw [3, 4] (fun s i wr => ∃ (k : Nat) (ak : Option Addr) (nk ck : Nat), k ≤ en ∧ i = .int .i64 k ∧ s = .slice ak nk ck ∧ Hid (Own8 wr X.heap.size ak nk ck (H ++ ((es.take k).map En.plain).flatMap entB)) ∧ Hid (Below X.heap.size X wr)) (fun _ i _ => en - (intOf i).toNat)
  case atStart => exact ⟨0, a9, n9, c9, Nat.zero_le _, rfl, rfl, Lib.hid (by simpa using HO.out), HY9⟩
  case round =>
    obtain ⟨k, ak, nk, ck, hk, rfl, rfl, HOK, HYK⟩ := hrel
    obtain ⟨b0, b1, b2, b3, b4, b5, b6, b7, b8, b9, b10, b11, b12, b13⟩ := ms_cells (HCE.out _ HYK.out)
    simp only at b8
    clear b0 b1 b2 b3 b4 b5 b6 b7 b9 b10 b11 b12 b13
    by_cases hlt : k < en
    · obtain ⟨e, hek⟩ : ∃ e, es[k]? = some e := ⟨_, List.getElem?_eq_getElem (by rw [HEL.out]; exact hlt)⟩
      obtain ⟨be, oe, rfl, e0, e1, e2, e3⟩ := en_at (HM.out.below HYK.out).row HEL.out k hlt e hek
      have hkn : (k : Int) < (en : Int) := by omega
      have hk0 : (0 : Int) ≤ (k : Int) := by omega
      have hnat : ((k : Int)).toNat = k := by omega
      have hem := List.mem_of_getElem? hek
      obtain ⟨q1, q2, q3⟩ := HFIT.out.each (En.plain e) (List.mem_map_of_mem hem)
      have q1' : -9223372036854775808 ≤ e.tm ∧ e.tm ≤ 9223372036854775807 := q1
      have q2' : 0 ≤ e.kd ∧ e.kd ≤ 2 := q2
      have q3' : e.s.bs.length ≤ 4096 := q3
      have hsl := HM.out.ents e hem
      have hsl2 : e.s.len ≤ 4096 := by have : e.s.bs.length = e.s.len := hsl.1.1; omega
      have hnk : nk ≤ 1000000 := by
        have h1 := HOK.out.length
        have h2 := HSM.out k
        rw [List.length_append] at h1
        omega
      have q4 := numBytes_len e.tm
      have q5 := numBytes_len e.kd
      have q6 := numBytes_len (e.s.bs.length : Nat)
      have hdat : ∀ Z, Below X.heap.size X Z → Row8 Z e.s.a e.s.len e.s.bs := fun Z hZ => hsl.1.below hZ
      have hapd : ∀ b off, e.s.a = some ⟨b, off, none⟩ → 0 < e.s.len → b < X.heap.size := row8_lt hsl.1
      have HED := Lib.hid hdat
      have HEA := Lib.hid hapd
      have HEK := Lib.hid hek
      obtain ⟨Y, hY⟩ : ∃ Y, Y = wr.alloc (.cells #[.int .i64 e.ix, .int .i64 e.tm, .int .i64 e.kd, .slice e.s.a e.s.len e.s.cap] 41) := ⟨_, rfl⟩
      have hYc : Y.heap[wr.heap.size]? = some (.cells #[.int .i64 e.ix, .int .i64 e.tm, .int .i64 e.kd, .slice e.s.a e.s.len e.s.cap] 41 (0, 0)) := hY ▸ heap_alloc_new wr _
      have hYb : Below wr.heap.size wr Y := hY ▸ below_alloc (Below.refl _ _) _
      have hYs : Y.heap.size = wr.heap.size + 1 := by rw [hY, World.size_alloc]
      have hj0 : JAt X Y.drew (Value.ownBlock (.slice ak nk ck)) (H ++ ((es.take k).map En.plain).flatMap entB) ak nk ck Y.drew :=
        JAt.start (HOK.out.below (below_then hYb (Below.refl _ _).drew) (Nat.le_refl _)) (below_then HYK.out (below_then hYb (Below.refl _ _).drew))
      have hrow : ∀ g, Value.ownBlock (.slice ak nk ck) = some g → g < wr.heap.size := fun g hg => (HOK.out.block g hg).2
      have hEc : ∀ (a : Option Addr) (n c : Nat) (bs : List UInt8) (Z : World), JAt X Y.drew (Value.ownBlock (.slice ak nk ck)) bs a n c Z → (Z.cell? ⟨wr.heap.size, 1, none⟩ = some (.int .i64 e.tm) ∧ Z.cell? ⟨wr.heap.size, 2, none⟩ = some (.int .i64 e.kd) ∧ Z.cell? ⟨wr.heap.size, 3, none⟩ = some (.slice e.s.a e.s.len e.s.cap)) := fun a n c bs Z hZ => by
        have h1 : Z.heap[wr.heap.size]? = some (.cells #[.int .i64 e.ix, .int .i64 e.tm, .int .i64 e.kd, .slice e.s.a e.s.len e.s.cap] 41 (0, 0)) := (hZ.grown.block wr.heap.size (by rw [size_drew, hYs]; omega) (fun h => by have := hrow _ h.symm; omega)).trans ((Below.refl Y.heap.size Y).drew.block wr.heap.size (by omega) |>.trans hYc)
        obtain ⟨⟨f0, f1, f2, f3⟩, _⟩ := four_cells h1
        exact ⟨f1, f2, f3⟩
      have HJ0 := Lib.hid hj0
      have HEC := Lib.hid hEc
      have HY := Lib.hid hY
      clear hek hem q1 q2 q3 hsl hdat hapd hY hYc hYb hYs hj0 hrow hEc
      go_upto_region 15 with fail
      rw [← HY.out]
      go_region_held3 (fun w' => w'.cell? ⟨wr.heap.size, 1, none⟩ = some (.int .i64 e.tm) ∧ w'.cell? ⟨wr.heap.size, 2, none⟩ = some (.int .i64 e.kd) ∧ w'.cell? ⟨wr.heap.size, 3, none⟩ = some (.slice e.s.a e.s.len e.s.cap))
        (first | exact HEC.out _ _ _ _ _ HJ3.out | exact HEC.out _ _ _ _ _ HJ2.out | exact HEC.out _ _ _ _ _ HJ1.out | exact HEC.out _ _ _ _ _ HJ0.out | go_keep)
        (first
          | (go_at_call 72; refine (bytes17_any X _ _ _ _ _ _ _ _ _ HJ2.out.below HJ2.out.own (by have hq := HJ2.out.len; have hq2 := HOK.out.length; simp at hq hq2; omega) (HED.out _ HJ2.out.below) (fun b off he h0 => ⟨by have := HEA.out b off he h0; have := HJ2.out.below.size; omega, fun hw => by have := HEA.out b off he h0; have := own_ge HJ2.out.own b hw; omega⟩) (by omega)).mono ?_; rintro e y3 hh; obtain ⟨z3, n3, c3, rfl, hj⟩ := HJ2.out.next hh; have HJ3 := Lib.hid hj; clear hh hj)
          | (go_at_call 70; refine (num17_any X _ _ _ _ _ _ HJ1.out.below HJ1.out.own (by have hq := HJ1.out.len; have hq2 := HOK.out.length; simp at hq hq2; omega) (by omega)).mono ?_; rintro e y2 hh; obtain ⟨z2, n2, c2, rfl, hj⟩ := HJ1.out.next hh; have HJ2 := Lib.hid hj; clear hh hj)
          | (go_at_call 70; refine (num17_any X _ _ _ _ _ _ HJ0.out.below HJ0.out.own (by omega) q1').mono ?_; rintro e y1 hh; obtain ⟨z1, n1, c1, rfl, hj⟩ := HJ0.out.next hh; have HJ1 := Lib.hid hj; clear hh hj))
      have hbs : H ++ ((es.take k).map En.plain).flatMap entB ++ numBytes e.tm ++ numBytes e.kd ++ lenB e.s.bs = H ++ ((es.take (k + 1)).map En.plain).flatMap entB := by
        rw [List.take_add_one, HEK.out, List.map_append, List.flatMap_append]
        simp [entB, En.plain]
      have ho3 := HJ3.out.own
      rw [hbs] at ho3
      have HO3 := Lib.hid ho3
      have HB3 := Lib.hid HJ3.out.below
      clear ho3 hbs HJ0 HJ1 HJ2 HJ3 HEC
      go_wp2_with fail
      go_roundw
      case rel => exact ⟨k + 1, z3, n3, c3, by omega, by go_num, rfl, HO3, HB3⟩
      case measure => simp [intOf]; omega
    · have hke : k = en := by omega
      subst hke
      have ho := HOK.out
      rw [List.take_of_length_le (by rw [HEL.out]; omega)] at ho
      have HOE := Lib.hid ho
      clear ho
      go_wp2_with fail
      exact HFIN.out _ _ _ _ _ HOE.out HYK.out (by
        have hx := pay5 (x := Ms.plain ⟨5, fr, tt, term, index, logTerm, commit, ok, ea, k, ecap, es, off, d, last, c⟩) rfl
        rw [HENC.out, hx, HH.out]
        have h1 : (Ms.plain ⟨5, fr, tt, term, index, logTerm, commit, ok, ea, k, ecap, es, off, d, last, c⟩).es.length = k := by show (es.map En.plain).length = k; rw [List.length_map, HEL.out]
        rw [h1]
        rfl)
end Go.Proofs.Ytcejamblndilbaa
