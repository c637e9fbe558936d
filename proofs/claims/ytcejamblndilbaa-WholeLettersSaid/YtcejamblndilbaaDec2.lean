/- msg.Decode: the whole. -/
import Derived.Test.YtcejamblndilbaaMop
namespace Go.Proofs.Ytcejamblndilbaa
open Go.RowKit

/-- the message of a frame -/
def payP (p : List UInt8) : Option Pm := match decStep p with
  | some (x, []) => some x
  | _ => none
def decP (b : List UInt8) : Option Pm := if (Fr.unframe b).2.2 = 0 ∧ (Fr.unframe b).2.1 = b.length then payP (Fr.unframe b).1 else none
def DecRd (X : World) (C : Nat) (bs : List UInt8) (e : Ending) (w' : World) : Prop :=
  Touch [C] X w' ∧ e = .returned (.int .i64 (if payP bs = none then 30 else 0)) ∧ ∀ x, payP bs = some x → ∃ m : Ms, m.plain = x ∧ w'.heap[C]? = some (.cells m.cs 28 (0, 0)) ∧ MOwn w' X.heap.size m

theorem dec_read (a : Option Addr) (n cap : Nat) (bs : List UInt8) (X : World) (C : Nat) (hr : Row8 X a n bs) (hnc : n ≤ cap) (hcm : cap ≤ maxLen) (hnil : a = none → cap = 0) (hC : X.heap[C]? = some (.cells zeroM.cs 28 (0, 0))) :
    Calls Try.prog 44 #[.slice a n cap, .func (.func 45) #[] #[.pointer (some ⟨C, 0, none⟩)]] X (DecRd X C bs) := by
  have hCl : C < X.heap.size := (Array.getElem?_eq_some_iff.1 hC).1
  have hSs := readStart_size X a n cap
  have hSb := readStart_below X a n cap
  have hl := dec1_any (X.heap.size + 1) C bs (readStart X a n cap) (Rd.start hr hnc hcm hnil) ((readStart_old hCl).trans hC) (by omega)
  have hcode : (readStart X a n cap).heap[X.heap.size]? = some (.cells #[.int .i64 0] 30 (0, 0)) := (heap_alloc_old _ _ (by rw [World.size_alloc]; omega)).trans (heap_alloc_new X _)
  have key := read_any 45 #[.pointer (some ⟨C, 0, none⟩)] a n cap X
    (fun rest w' => ∃ (x : Pm) (m : Ms), decStep bs = some (x, rest) ∧ Touch [X.heap.size + 1, C] (readStart X a n cap) w' ∧ m.plain = x ∧ w'.heap[C]? = some (.cells m.cs 28 (0, 0)) ∧ MOwn w' (readStart X a n cap).heap.size m)
    (fun code w' => code = 30 ∧ decStep bs = none ∧ Touch [X.heap.size + 1, C] (readStart X a n cap) w') enters_dec1 (hl.mono fun e w' hp => by
      obtain ⟨ht, hok, hno⟩ := hp
      refine ⟨(ht.block X.heap.size (by omega) (by simp; omega)).trans hcode, ?_⟩
      cases hres : decStep bs with
      | none => exact .inr ⟨30, hno hres, rfl, rfl, ht⟩
      | some p =>
        obtain ⟨x, rest⟩ := p
        obtain ⟨he, hrd, m, h1, h2, h3⟩ := hok x rest hres
        exact .inl ⟨rest, he, hrd, x, m, rfl, ht, h1, h2, h3⟩)
  have hT : ∀ {w1 w2 : World}, Touch [X.heap.size + 1, C] (readStart X a n cap) w1 → w1.grownBy w2 (some X.heap.size) → Touch [C] X w2 := fun {w1 w2} ht hg =>
    ⟨hg.os.trans (ht.os.trans hSb.os), hg.tape.trans (ht.tape.trans hSb.tape), hg.output.trans (ht.output.trans hSb.output), by have := ht.size; have := hg.size; omega,
      fun k hk hn => (hg.block k (by have := ht.size; omega) (fun e => by injection e; omega)).trans ((ht.block k (by omega) (by simp at hn ⊢; omega)).trans (readStart_old hk))⟩
  refine key.mono ?_
  rintro e w2 (⟨rest, w1, ⟨x, m, hres, ht, hpl, hC1, hown⟩, rfl, hz, hg⟩ | ⟨code, w1, ⟨rfl, hres, ht⟩, rfl, hg⟩)
  · have hz1 := ht.size
    refine ⟨hT ht hg, ?_, fun y hy => ?_⟩
    · cases rest with
      | nil =>
        have : payP bs = some x := by rw [payP, hres]
        rw [this]; rfl
      | cons c r =>
        have : payP bs = none := by rw [payP, hres]
        rw [this]; rfl
    · cases rest with
      | nil =>
        have hx : payP bs = some x := by rw [payP, hres]
        rw [hx] at hy
        injection hy with hy
        subst hy
        exact ⟨m, hpl, (hg.block C (by omega) (fun e => by injection e; omega)).trans hC1, (hown.keep fun g hb hl => hg.block g hl (fun e => by injection e; omega)).more (by omega)⟩
      | cons c r =>
        have hx : payP bs = none := by rw [payP, hres]
        rw [hx] at hy; cases hy
  · have hx : payP bs = none := by rw [payP, hres]
    exact ⟨hT ht hg, by rw [hx]; rfl, fun y hy => by rw [hx] at hy; cases hy⟩

/-- what Decode answers -/
def DecodePost (w : World) (b : List UInt8) (e : Ending) (w' : World) : Prop :=
  ∃ m : Ms, e = .returned (.tuple #[.agg m.cs, .int .i64 (if decP b = none then 30 else 0)]) ∧ m.plain = (decP b).getD zeroM.plain ∧ MOwn w' w.heap.size m ∧ Below w.heap.size w w'
theorem below_of_touch {w a b : World} {D : Nat} (h : Below w.heap.size w a) (ht : Touch [D] a b) (hD : w.heap.size ≤ D) : Below w.heap.size w b := ht.below h h.size (fun k hk => by simp at hk; omega)

set_option maxRecDepth 100000 in
set_option maxHeartbeats 16000000 in
theorem decode_any (a : Option Addr) (n c : Nat) (b : List UInt8) (w : World) (hr : Row8 w a n b) (hnc : n ≤ c) (hcm : c ≤ maxLen) :
    Calls Try.prog 15 #[.slice a n c] w (DecodePost w b) := by
  obtain ⟨D, hD⟩ : ∃ D, D = w.heap.size := ⟨_, rfl⟩
  obtain ⟨X, hX⟩ : ∃ X, X = w.alloc (.cells zeroM.cs 28) := ⟨_, rfl⟩
  have hXb : Below w.heap.size w X := hX ▸ below_alloc (Below.refl _ _) _
  have hd : X.heap[D]? = some (.cells zeroM.cs 28 (0, 0)) := by rw [hX, hD]; exact heap_alloc_new w _
  have hu := unframe_all a n c b X (hr.below hXb) hnc hcm
  have hbl : b.length = n := hr.1
  have hnm : n ≤ 9223372036854775807 := by simp only [maxLen] at hcm; omega
  have hdp : decP b = if (Fr.unframe b).2.2 = 0 ∧ (Fr.unframe b).2.1 = n then payP (Fr.unframe b).1 else none := by rw [decP, hbl]
  obtain ⟨post, hpost⟩ : ∃ post, post = DecodePost w b := ⟨_, rfl⟩
  rw [← hpost]
  obtain ⟨res, hres⟩ : ∃ res, res = decP b := ⟨_, rfl⟩
  have hP : ∀ (m : Ms) (w' : World), m.plain = res.getD zeroM.plain → MOwn w' w.heap.size m → Below w.heap.size w w' → post (.returned (.tuple #[.agg m.cs, .int .i64 (if res = none then 30 else 0)])) w' := by
    intro m w' h1 h2 h3
    rw [hpost]
    rw [hres] at h1 ⊢
    exact ⟨m, rfl, h1, h2, h3⟩
  have hP0 : ∀ w', res = none → Below w.heap.size w w' → post (.returned (.tuple #[.agg zeroM.cs, .int .i64 30])) w' := by
    intro w' h1 h3
    have := hP zeroM w' (by rw [h1]; rfl) (zeroM_own _ _) h3
    rw [h1] at this
    exact this
  have hP1 : ∀ (m : Ms) w', res = some m.plain → MOwn w' w.heap.size m → Below w.heap.size w w' → post (.returned (.tuple #[.agg m.cs, .int .i64 0])) w' := by
    intro m w' h1 h2 h3
    have := hP m w' (by rw [h1]; rfl) h2 h3
    rw [h1] at this
    exact this
  have HP0 := Lib.hid hP0
  have HP1 := Lib.hid hP1
  rw [← hres] at hdp
  clear hP hP0 hP1 hpost
  obtain ⟨pay, k, code, hpk⟩ : ∃ pay k code, Fr.unframe b = (pay, k, code) := ⟨_, _, _, rfl⟩
  rw [hpk] at hu hdp
  simp only at hu hdp
  have HU := Lib.hid hu
  have HDP := Lib.hid hdp
  have HDD := Lib.hid hd
  have HX := Lib.hid hX
  have HXB := Lib.hid hXb
  have HD := Lib.hid hD
  clear hr hnc hcm hu hd hX hXb hbl hdp hres hpk hD
  unfold zeroM Ms.cs at HX
  simp only at HX
  go_enter Try.func15, Try.ntmps15
  go_wp2_with fail
  rw [← HX.out, ← HD.out]
  refine HU.out.mono ?_
  rintro e w2 ⟨ao, cap, rfl, hown, hb2⟩
  have hd2 := (hb2.block D (Array.getElem?_eq_some_iff.1 HDD.out).1).trans HDD.out
  have HB2 := Lib.hid hb2
  have HOW := Lib.hid hown
  have HD2 := Lib.hid hd2
  clear hb2 hown hd2
  by_cases hbad : code ≠ 0
  · have hno : res = none := by rw [HDP.out, if_neg (fun h => hbad h.1)]
    have HNO := Lib.hid hno
    have hc1 : ((code : Int) != 0) = true := by simp; omega
    clear hbad hno HDP
    go_upto_region 3 with fail
    go_wp2_with (first
      | (refine wpList_zeroM rfl rfl ?_)
      | (refine wpList_storeM rfl _ _ rfl D zeroM zeroM rfl rfl _ HD2.out ?_; intro w3 hd3 ht3; have HD3 := Lib.hid hd3; have HT3 := Lib.hid ht3; clear hd3 ht3))
    exact bodyPost_ret (results_cell_tmp Try.results15 rfl (load_msg HD3.out)) rfl (HP0.out _ HNO.out (below_of_touch (below_then HXB.out HB2.out) HT3.out (Nat.le_of_eq HD.out.symm)))
  by_cases hbad2 : k ≠ n
  · have hno : res = none := by rw [HDP.out, if_neg (fun h => hbad2 h.2)]
    have HNO := Lib.hid hno
    have hc0 : code = 0 := by omega
    subst hc0
    have hc1 : ((k : Int) != (n : Int)) = true := by simp; omega
    clear hbad hbad2 hno HDP
    go_upto_region 3 with fail
    go_wp2_with (first
      | (refine wpList_zeroM rfl rfl ?_)
      | (refine wpList_storeM rfl _ _ rfl D zeroM zeroM rfl rfl _ HD2.out ?_; intro w3 hd3 ht3; have HD3 := Lib.hid hd3; have HT3 := Lib.hid ht3; clear hd3 ht3))
    exact bodyPost_ret (results_cell_tmp Try.results15 rfl (load_msg HD3.out)) rfl (HP0.out _ HNO.out (below_of_touch (below_then HXB.out HB2.out) HT3.out (Nat.le_of_eq HD.out.symm)))
  have hc0 : code = 0 := by omega
  have hkn : k = n := by omega
  subst hc0 hkn
  have hres : res = payP pay := by rw [HDP.out, if_pos ⟨rfl, rfl⟩]
  obtain ⟨C, hC⟩ : ∃ C, C = w2.heap.size := ⟨_, rfl⟩
  obtain ⟨w3, hw3⟩ : ∃ w3, w3 = w2.alloc (.cells zeroM.cs 28) := ⟨_, rfl⟩
  have hb3 : Below w2.heap.size w2 w3 := hw3 ▸ below_alloc (Below.refl _ _) _
  have hc3 : w3.heap[C]? = some (.cells zeroM.cs 28 (0, 0)) := by rw [hw3, hC]; exact heap_alloc_new w2 _
  have how3 : Own8 w3 X.heap.size ao pay.length cap pay := HOW.out.keep fun g _ hl => hb3.block g hl
  have hd3 := (hb3.block D (Array.getElem?_eq_some_iff.1 HD2.out).1).trans HD2.out
  have hrd := dec_read ao pay.length cap pay w3 C how3.row how3.cap.1 how3.cap.2 how3.nocap hc3
  have hDC : D < C := by rw [hC]; exact (Array.getElem?_eq_some_iff.1 HD2.out).1
  have HRD := Lib.hid hrd
  have HB3 := Lib.hid (below_then (below_then HXB.out HB2.out) hb3)
  have HRES := Lib.hid hres
  have HW3 := Lib.hid hw3
  have HC := Lib.hid hC
  have HD3 := Lib.hid hd3
  have HC3 := Lib.hid hc3
  have HDC := Lib.hid hDC
  unfold zeroM Ms.cs at HW3
  simp only at HW3
  clear hbad hbad2 hb3 hc3 how3 hd3 hrd hDC hres hw3 hC HD2 HDP HOW HU HX
  have hmf : ∀ (fn : Fn) (first cap : Array Value) (w : World), (Instr.makeFunc fn first cap).run Try.prog w = .ok (.func fn first cap) w := fun _ _ _ _ => rfl
  go_wp2_with fail
  rw [← HW3.out, ← HC.out]
  refine HRD.out.mono ?_
  rintro e w4 ⟨ht4, rfl, hok⟩
  have hd4 := (ht4.block D (Array.getElem?_eq_some_iff.1 HD3.out).1 (by have := HDC.out; simp; omega)).trans HD3.out
  have hs3 : w.heap.size ≤ w3.heap.size := HB3.out.size
  have hCw : w.heap.size ≤ C := by have := HDC.out; have := HD.out; omega
  have HB4 := Lib.hid (below_of_touch HB3.out ht4 hCw)
  have HD4 := Lib.hid hd4
  have HS3 := Lib.hid hs3
  clear ht4 HRD hd4 hs3 hCw hmf
  cases hpp : payP pay with
  | none =>
    have hno : res = none := by rw [HRES.out, hpp]
    have HNO := Lib.hid hno
    rw [if_pos rfl]
    clear hok hpp hno
    go_upto_region 7 with fail
    go_wp2_with (first
      | (refine wpList_zeroM rfl rfl ?_)
      | (refine wpList_storeM rfl _ _ rfl D zeroM zeroM rfl rfl _ HD4.out ?_; intro w5 hd5 ht5; have HD5 := Lib.hid hd5; have HT5 := Lib.hid ht5; clear hd5 ht5))
    exact bodyPost_ret (results_cell_tmp Try.results15 rfl (load_msg HD5.out)) rfl (HP0.out _ HNO.out (below_of_touch HB4.out HT5.out (Nat.le_of_eq HD.out.symm)))
  | some x =>
    obtain ⟨m, rfl, hmc, hmo⟩ := hok x hpp
    have hso : res = some m.plain := by rw [HRES.out, hpp]
    rw [if_neg (by simp)]
    have HSO := Lib.hid hso
    have HMC := Lib.hid hmc
    have HMO := Lib.hid hmo
    clear hok hpp hso hmc hmo
    go_upto_region 8 with fail
    go_wp2_with (first
      | (refine wpList_loadM rfl _ rfl C m _ rfl HMC.out ?_)
      | (refine wpList_storeM rfl _ _ rfl D m zeroM rfl rfl _ HD4.out ?_; intro w5 hd5 ht5; have HD5 := Lib.hid hd5; have HT5 := Lib.hid ht5; clear hd5 ht5))
    have hmo5 := (HMO.out.keep (w' := w5) fun g hg hl => HT5.out.block g hl (by
      have := (Array.getElem?_eq_some_iff.1 HD3.out).1
      simp; omega)).more HS3.out
    exact bodyPost_ret (results_cell_tmp Try.results15 rfl (load_msg HD5.out)) rfl (HP1.out m _ HSO.out hmo5 (below_of_touch HB4.out HT5.out (Nat.le_of_eq HD.out.symm)))
end Go.Proofs.Ytcejamblndilbaa
