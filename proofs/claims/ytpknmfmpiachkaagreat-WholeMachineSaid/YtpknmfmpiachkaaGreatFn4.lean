/- slices.IndexFunc, ContainsFunc, at keys and at spans. -/
import Derived.Test.YtpknmfmpiachkaaGreatSpan7
import Derived.Laws.StructEq
namespace Go.Proofs.YtpknmfmpiachkaaGreat
open Go.RowKit
def cellsF (ws : List Nat) : List Value := ws.map (Value.float .f64)
theorem cellsF_at (ws : List Nat) (k x : Nat) (h : ws[k]? = some x) : (cellsF ws)[k]? = some (.float .f64 x) := by
 unfold cellsF; rw [List.getElem?_map, h]; rfl
theorem float_at {w : World} {a : Option Addr} {n : Nat} {ws : List Nat} (hr : RowN w a 1 n (cellsF ws)) (k : Nat) (hk : k < n) (x : Nat) (hx : ws[k]? = some x) :
 ∃ b off, a = some ⟨b, off, none⟩ ∧ w.cell? ⟨b, off + k, none⟩ = some (.float .f64 x) := by
 obtain ⟨b, off, ha, hc⟩ := hr.2 (by omega)
 exact ⟨b, off, ha, hc k _ (cellsF_at ws k x hx)⟩
def idxOf {α : Type} (p : α → Bool) (l : List α) : Int := match l.findIdx? p with
 | some i => (i : Nat)
 | none => -1
theorem idxOf_some {α : Type} {p : α → Bool} {l : List α} {k : Nat} {x : α} (hx : l[k]? = some x) (hp : p x = true) (hno : ∀ (j : Nat) y, j < k → l[j]? = some y → p y = false) : idxOf p l = (k : Nat) := by
 have : l.findIdx? p = some k := by
  rw [List.findIdx?_eq_some_iff_getElem]
  obtain ⟨h, e⟩ := List.getElem?_eq_some_iff.1 hx
  refine ⟨h, by rw [e]; exact hp, fun j hj => ?_⟩
  have hjl : j < l.length := by omega
  rw [hno j l[j] hj (List.getElem?_eq_getElem hjl)]
  simp
 unfold idxOf
 rw [this]
theorem idxOf_none {α : Type} {p : α → Bool} {l : List α} (hno : ∀ (j : Nat) y, l[j]? = some y → p y = false) : idxOf p l = -1 := by
 have : l.findIdx? p = none := by
  rw [List.findIdx?_eq_none_iff]
  intro x hx
  obtain ⟨j, hj⟩ := List.getElem?_of_mem hx
  exact hno j x hj
 unfold idxOf
 rw [this]
theorem idxOf_any {α : Type} (p : α → Bool) (l : List α) : decide (0 ≤ idxOf p l) = l.any p := by
 unfold idxOf
 cases h : l.findIdx? p with
 | none =>
   rw [List.findIdx?_eq_none_iff] at h
   rw [show l.any p = false by rw [List.any_eq_false]; intro x hx; rw [h x hx]; simp]
   rfl
 | some i =>
   obtain ⟨hi, hp, _⟩ := List.findIdx?_eq_some_iff_getElem.1 h
   rw [show l.any p = true by rw [List.any_eq_true]; exact ⟨_, List.getElem_mem hi, hp⟩]
   simp
set_option maxRecDepth 100000 in
set_option maxHeartbeats 3200000 in
theorem indexF_any (f : FuncId) (cb : Array Value) (p : Nat → Bool) (ws : List Nat) (a : Option Addr) (n cap : Nat) (w : World) (hrow : RowN w a 1 n (cellsF ws)) (hl : ws.length = n) (hn : n ≤ 1000000000000)
 (eg : ∀ args w, (callFunc f args).run Tryz.prog w = .ok (.enter f args) w) (hp : ∀ x ∈ ws, ∀ W, Below w.heap.size w W → Calls Tryz.prog f (#[.float .f64 x] ++ cb) W (RetBox W (.bool (p x)))) :
 Calls Tryz.prog 90 #[.slice a n cap, .func (.func f) #[] cb] w (RetBox w (.int .i64 (idxOf p ws))) := by
 have HROW := Lib.hid hrow
 have HL := Lib.hid hl
 have HP := Lib.hid hp
 clear hrow hl hp
 go_enter Tryz.func90, Tryz.ntmps90
 go_wp2_with fail
 go_loopw [8] (fun i wr => ∃ k : Nat, i = .int .i64 k ∧ k ≤ n ∧ Hid (∀ (j : Nat) y, j < k → ws[j]? = some y → p y = false) ∧ Hid (Below w.heap.size w wr)) (fun i _ => n - (intOf i).toNat)
 case atStart => exact ⟨0, rfl, Nat.zero_le _, (fun j y hj => absurd hj (by omega)), Below.refl _ _⟩
 case round =>
  obtain ⟨k, rfl, hk, HNO, HB⟩ := hrel
  by_cases hlt : k < n
  · obtain ⟨x, hx⟩ : ∃ x, ws[k]? = some x := ⟨_, List.getElem?_eq_getElem (by rw [HL.out]; exact hlt)⟩
    obtain ⟨b, off, rfl, e0⟩ := float_at (HROW.out.below HB.out) k hlt x hx
    have hc := HP.out x (List.mem_of_getElem? hx)
    have hkn : (k : Int) < (n : Int) := by omega
    have hk0 : (0 : Int) ≤ (k : Int) := by omega
    have hnat : ((k : Int)).toNat = k := by omega
    have HX := Lib.hid hx
    have HC := Lib.hid hc
    clear hx hc
    cases hpx : p x with
    | true =>
      rw [hpx] at HC
      have HPX := Lib.hid hpx
      clear hpx
      go_wp2_with fail
      refine (HC.out _ HB.out).mono ?_
      rintro e w1 ⟨rfl, hb1⟩
      have HB1 := Lib.hid (below_then HB.out hb1)
      clear hb1
      go_wp2_with fail
      go_ret
      exact ⟨ret_int (idxOf_some HX.out HPX.out HNO.out).symm, HB1.out⟩
    | false =>
      rw [hpx] at HC
      have HPX := Lib.hid hpx
      clear hpx
      go_wp2_with fail
      refine (HC.out _ HB.out).mono ?_
      rintro e w1 ⟨rfl, hb1⟩
      have HB1 := Lib.hid (below_then HB.out hb1)
      clear hb1
      go_wp2_with fail
      go_roundw
      case rel =>
       refine ⟨k + 1, by go_num, by omega, ?_, HB1.out⟩
       intro j y hj hy
       by_cases h : j < k
       · exact HNO.out j y h hy
       · obtain rfl : j = k := by omega
         rw [HX.out] at hy
         injection hy with hy
         rw [← hy]; exact HPX.out
      case measure => simp [intOf]; omega
  · go_wp2_with fail
    go_ret
    exact ⟨ret_int (idxOf_none (p := p) (l := ws) (fun j y hy => HNO.out j y (by have := (List.getElem?_eq_some_iff.1 hy).1; rw [HL.out] at this; omega) hy)).symm, HB.out⟩
set_option maxRecDepth 100000 in
set_option maxHeartbeats 3200000 in
theorem indexS_any (f : FuncId) (cb : Array Value) (p : Spn → Bool) (ws : List Spn) (a : Option Addr) (n cap : Nat) (w : World) (hrow : RowN w a 4 n (ws.flatMap Spn.cells)) (hl : ws.length = n) (hn : n ≤ 1000000000000)
 (eg : ∀ args w, (callFunc f args).run Tryz.prog w = .ok (.enter f args) w) (hp : ∀ x ∈ ws, ∀ W, Below w.heap.size w W → Calls Tryz.prog f (#[.agg #[.float .f64 x.lo, .float .f64 x.hi, .bool x.lop, .bool x.hop]] ++ cb) W (RetBox W (.bool (p x)))) :
 Calls Tryz.prog 91 #[.slice a n cap, .func (.func f) #[] cb] w (RetBox w (.int .i64 (idxOf p ws))) := by
 have HROW := Lib.hid hrow
 have HL := Lib.hid hl
 have HP := Lib.hid hp
 clear hrow hl hp
 go_enter Tryz.func91, Tryz.ntmps91
 go_wp2_with fail
 go_loopw [8] (fun i wr => ∃ k : Nat, i = .int .i64 k ∧ k ≤ n ∧ Hid (∀ (j : Nat) y, j < k → ws[j]? = some y → p y = false) ∧ Hid (Below w.heap.size w wr)) (fun i _ => n - (intOf i).toNat)
 case atStart => exact ⟨0, rfl, Nat.zero_le _, (fun j y hj => absurd hj (by omega)), Below.refl _ _⟩
 case round =>
  obtain ⟨k, rfl, hk, HNO, HB⟩ := hrel
  by_cases hlt : k < n
  · obtain ⟨x, hx⟩ : ∃ x, ws[k]? = some x := ⟨_, List.getElem?_eq_getElem (by rw [HL.out]; exact hlt)⟩
    obtain ⟨b, off, rfl, e0, e1, e2, e3⟩ := span_at (HROW.out.below HB.out) HL.out k hlt x hx
    have hc := HP.out x (List.mem_of_getElem? hx)
    have hkn : (k : Int) < (n : Int) := by omega
    have hk0 : (0 : Int) ≤ (k : Int) := by omega
    have hnat : ((k : Int)).toNat = k := by omega
    have HX := Lib.hid hx
    have HC := Lib.hid hc
    clear hx hc
    cases hpx : p x with
    | true =>
      rw [hpx] at HC
      have HPX := Lib.hid hpx
      clear hpx
      go_wp2_with fail
      refine (HC.out _ HB.out).mono ?_
      rintro e w1 ⟨rfl, hb1⟩
      have HB1 := Lib.hid (below_then HB.out hb1)
      clear hb1
      go_wp2_with fail
      go_ret
      exact ⟨ret_int (idxOf_some HX.out HPX.out HNO.out).symm, HB1.out⟩
    | false =>
      rw [hpx] at HC
      have HPX := Lib.hid hpx
      clear hpx
      go_wp2_with fail
      refine (HC.out _ HB.out).mono ?_
      rintro e w1 ⟨rfl, hb1⟩
      have HB1 := Lib.hid (below_then HB.out hb1)
      clear hb1
      go_wp2_with fail
      go_roundw
      case rel =>
       refine ⟨k + 1, by go_num, by omega, ?_, HB1.out⟩
       intro j y hj hy
       by_cases h : j < k
       · exact HNO.out j y h hy
       · obtain rfl : j = k := by omega
         rw [HX.out] at hy
         injection hy with hy
         rw [← hy]; exact HPX.out
      case measure => simp [intOf]; omega
  · go_wp2_with fail
    go_ret
    exact ⟨ret_int (idxOf_none (p := p) (l := ws) (fun j y hy => HNO.out j y (by have := (List.getElem?_eq_some_iff.1 hy).1; rw [HL.out] at this; omega) hy)).symm, HB.out⟩
set_option maxRecDepth 100000 in
set_option maxHeartbeats 1600000 in
theorem containsF_any (f : FuncId) (cb : Array Value) (p : Nat → Bool) (ws : List Nat) (a : Option Addr) (n cap : Nat) (w : World) (hrow : RowN w a 1 n (cellsF ws)) (hl : ws.length = n) (hn : n ≤ 1000000000000)
 (eg : ∀ args w, (callFunc f args).run Tryz.prog w = .ok (.enter f args) w) (hp : ∀ x ∈ ws, ∀ W, Below w.heap.size w W → Calls Tryz.prog f (#[.float .f64 x] ++ cb) W (RetBox W (.bool (p x)))) :
 Calls Tryz.prog 47 #[.slice a n cap, .func (.func f) #[] cb] w (RetBox w (.bool (ws.any p))) := by
 have h := indexF_any f cb p ws a n cap w hrow hl hn eg hp
 have ha := idxOf_any p ws
 obtain ⟨i, hi⟩ : ∃ i, i = idxOf p ws := ⟨_, rfl⟩
 rw [← hi] at h ha
 have H := Lib.hid h
 have HA := Lib.hid ha
 clear h ha hrow hl hp hi eg
 go_enter Tryz.func47, Tryz.ntmps47
 go_wp2_with fail
 refine H.out.mono ?_
 rintro e w1 ⟨rfl, hb1⟩
 have HB1 := Lib.hid hb1
 clear hb1
 go_wp2_with fail
 go_ret
 exact ⟨by rw [← HA.out]; rfl, HB1.out⟩
set_option maxRecDepth 100000 in
set_option maxHeartbeats 1600000 in
theorem containsS_any (f : FuncId) (cb : Array Value) (p : Spn → Bool) (ws : List Spn) (a : Option Addr) (n cap : Nat) (w : World) (hrow : RowN w a 4 n (ws.flatMap Spn.cells)) (hl : ws.length = n) (hn : n ≤ 1000000000000)
 (eg : ∀ args w, (callFunc f args).run Tryz.prog w = .ok (.enter f args) w) (hp : ∀ x ∈ ws, ∀ W, Below w.heap.size w W → Calls Tryz.prog f (#[.agg #[.float .f64 x.lo, .float .f64 x.hi, .bool x.lop, .bool x.hop]] ++ cb) W (RetBox W (.bool (p x)))) :
 Calls Tryz.prog 49 #[.slice a n cap, .func (.func f) #[] cb] w (RetBox w (.bool (ws.any p))) := by
 have h := indexS_any f cb p ws a n cap w hrow hl hn eg hp
 have ha := idxOf_any p ws
 obtain ⟨i, hi⟩ : ∃ i, i = idxOf p ws := ⟨_, rfl⟩
 rw [← hi] at h ha
 have H := Lib.hid h
 have HA := Lib.hid ha
 clear h ha hrow hl hp hi eg
 go_enter Tryz.func49, Tryz.ntmps49
 go_wp2_with fail
 refine H.out.mono ?_
 rintro e w1 ⟨rfl, hb1⟩
 have HB1 := Lib.hid hb1
 clear hb1
 go_wp2_with fail
 go_ret
 exact ⟨by rw [← HA.out]; rfl, HB1.out⟩
end Go.Proofs.YtpknmfmpiachkaaGreat
namespace Go.Proofs.YtpknmfmpiachkaaGreat
open Go.RowKit
def hasK (key : Nat) (ws : List Nat) : Bool := ws.any fun x => Flo.feq key x
set_option maxRecDepth 100000 in
set_option maxHeartbeats 3200000 in
theorem index_any (key : Nat) (hkey : key < 18446744073709551616) (ws : List Nat) (hws : ∀ x ∈ ws, x < 18446744073709551616) (a : Option Addr) (n cap : Nat) (w : World) (hrow : RowN w a 1 n (cellsF ws)) (hl : ws.length = n) (hn : n ≤ 1000000000000) :
 Calls Tryz.prog 114 #[.slice a n cap, .float .f64 key] w (RetEq w (.int .i64 (idxOf (fun x => Flo.feq key x) ws))) := by
 have HROW := Lib.hid hrow
 have HL := Lib.hid hl
 have HW := Lib.hid hws
 clear hrow hl hws
 go_enter Tryz.func114, Tryz.ntmps114
 go_wp2_with fail
 go_loop [8] (fun i => ∃ k : Nat, i = .int .i64 k ∧ k ≤ n ∧ Hid (∀ (j : Nat) y, j < k → ws[j]? = some y → Flo.feq key y = false)) (fun i => n - (intOf i).toNat)
 case atStart => exact ⟨0, rfl, Nat.zero_le _, (fun j y hj => absurd hj (by omega))⟩
 case round =>
  obtain ⟨k, rfl, hk, HNO⟩ := hrel
  by_cases hlt : k < n
  · obtain ⟨x, hx⟩ : ∃ x, ws[k]? = some x := ⟨_, List.getElem?_eq_getElem (by rw [HL.out]; exact hlt)⟩
    obtain ⟨b, off, rfl, e0⟩ := float_at HROW.out k hlt x hx
    have hc := Flo.run_eq key x hkey (HW.out x (List.mem_of_getElem? hx))
    have hkn : (k : Int) < (n : Int) := by omega
    have hk0 : (0 : Int) ≤ (k : Int) := by omega
    have hnat : ((k : Int)).toNat = k := by omega
    have HX := Lib.hid hx
    clear hx
    cases hpx : Flo.feq key x with
    | true =>
      rw [hpx] at hc
      have HPX := Lib.hid hpx
      clear hpx
      go_wp2_with fail
      go_ret
      exact ⟨ret_int (idxOf_some HX.out HPX.out HNO.out).symm, rfl⟩
    | false =>
      rw [hpx] at hc
      have HPX := Lib.hid hpx
      clear hpx
      go_wp2_with fail
      go_round
      case rel =>
       refine ⟨k + 1, by go_num, by omega, ?_⟩
       intro j y hj hy
       by_cases h : j < k
       · exact HNO.out j y h hy
       · obtain rfl : j = k := by omega
         rw [HX.out] at hy
         injection hy with hy
         rw [← hy]; exact HPX.out
      case measure => simp [intOf]; omega
  · go_wp2_with fail
    go_ret
    exact ⟨ret_int (idxOf_none (p := fun x => Flo.feq key x) (l := ws) (fun j y hy => HNO.out j y (by have := (List.getElem?_eq_some_iff.1 hy).1; rw [HL.out] at this; omega) hy)).symm, rfl⟩
set_option maxHeartbeats 1600000 in
theorem contains_any (key : Nat) (hkey : key < 18446744073709551616) (ws : List Nat) (hws : ∀ x ∈ ws, x < 18446744073709551616) (a : Option Addr) (n cap : Nat) (w : World) (hrow : RowN w a 1 n (cellsF ws)) (hl : ws.length = n) (hn : n ≤ 1000000000000) :
 Calls Tryz.prog 73 #[.slice a n cap, .float .f64 key] w (RetEq w (.bool (hasK key ws))) := by
 have h := index_any key hkey ws hws a n cap w hrow hl hn
 have ha := idxOf_any (fun x => Flo.feq key x) ws
 obtain ⟨i, hi⟩ : ∃ i, i = idxOf (fun x => Flo.feq key x) ws := ⟨_, rfl⟩
 rw [← hi] at h ha
 have H := Lib.hid h
 have HA : Hid (decide (0 ≤ i) = hasK key ws) := ha
 clear h ha hrow hl hws hi
 go_enter Tryz.func73, Tryz.ntmps73
 go_wp2_with fail
 refine H.out.mono ?_
 rintro e w1 ⟨rfl, rfl⟩
 go_wp2_with fail
 go_ret
 exact ⟨by rw [← HA.out]; rfl, rfl⟩
def eqL {α : Type} (e : α → α → Bool) : List α → List α → Bool
 | [], [] => true
 | x :: xs, y :: ys => e x y && eqL e xs ys
 | _, _ => false
theorem eqL_len {α : Type} (e : α → α → Bool) : ∀ (xs ys : List α), xs.length ≠ ys.length → eqL e xs ys = false
 | [], [], h => absurd rfl h
 | [], y :: ys, _ => rfl
 | x :: xs, [], _ => rfl
 | x :: xs, y :: ys, h => by
   rw [eqL, eqL_len e xs ys (fun h2 => h (by rw [List.length_cons, List.length_cons, h2])), Bool.and_false]
theorem eqL_all {α : Type} (e : α → α → Bool) : ∀ (xs ys : List α), xs.length = ys.length → (∀ (j : Nat) x y, xs[j]? = some x → ys[j]? = some y → e x y = true) → eqL e xs ys = true
 | [], [], _, _ => rfl
 | [], y :: ys, h, _ => by cases h
 | x :: xs, [], h, _ => by cases h
 | x :: xs, y :: ys, h, k => by
   rw [eqL, k 0 x y rfl rfl, eqL_all e xs ys (by simpa using h) (fun j a b ha hb => k (j + 1) a b (by simpa using ha) (by simpa using hb)), Bool.and_true]
theorem eqL_no {α : Type} (e : α → α → Bool) : ∀ (xs ys : List α) (j : Nat) (x y : α), xs[j]? = some x → ys[j]? = some y → e x y = false → eqL e xs ys = false
 | [], ys, j, x, y, h, _, _ => by simp at h
 | a :: xs, [], j, x, y, _, h, _ => by simp at h
 | a :: xs, b :: ys, 0, x, y, hx, hy, h => by
   simp at hx hy
   subst hx hy
   rw [eqL, h, Bool.false_and]
 | a :: xs, b :: ys, j + 1, x, y, hx, hy, h => by
   rw [eqL, eqL_no e xs ys j x y (by simpa using hx) (by simpa using hy) h, Bool.and_false]
def eqW (a b : Nat) : Bool := decide (a = b)
set_option maxHeartbeats 800000 in
theorem risingFn_any (x y : Nat) (w : World) : Calls Tryz.prog 95 #[.float .f64 x, .float .f64 y] w (RetEq w (.bool (eqW x y))) := by
 have hb := bits64
 have he : Hid (((x : Int) == (y : Int)) = eqW x y) := by show _ = _; unfold eqW; rw [Bool.eq_iff_iff, beq_iff_eq, decide_eq_true_eq]; omega
 go_enter Tryz.func95, Tryz.ntmps95
 go_wp2_with fail
 go_ret
 exact ⟨by rw [← he.out]; rfl, rfl⟩
set_option maxRecDepth 100000 in
set_option maxHeartbeats 3200000 in
theorem eqF_any (xs ys : List Nat) (a b : Option Addr) (n m cn cm : Nat) (w : World) (hx : RowN w a 1 n (cellsF xs)) (hy : RowN w b 1 m (cellsF ys)) (hxl : xs.length = n) (hyl : ys.length = m) (hn : n ≤ 1000000000000) (hm : m ≤ 1000000000000) :
 Calls Tryz.prog 93 #[.slice a n cn, .slice b m cm, .func (.func 95) #[] #[]] w (RetEq w (.bool (eqL eqW xs ys))) := by
 have HX := Lib.hid hx
 have HY := Lib.hid hy
 have HXL := Lib.hid hxl
 have HYL := Lib.hid hyl
 clear hx hy hxl hyl
 by_cases hnm : n = m
 · subst hnm
   go_enter Tryz.func93, Tryz.ntmps93
   go_wp2_with fail
   go_loop [17] (fun i => ∃ k : Nat, i = .int .i64 k ∧ k ≤ n ∧ Hid (∀ (j : Nat) x y, j < k → xs[j]? = some x → ys[j]? = some y → eqW x y = true)) (fun i => n - (intOf i).toNat)
   case atStart => exact ⟨0, rfl, Nat.zero_le _, (fun j x y hj => absurd hj (by omega))⟩
   case round =>
    obtain ⟨k, rfl, hk, HNO⟩ := hrel
    by_cases hlt : k < n
    · obtain ⟨x, hxk⟩ : ∃ x, xs[k]? = some x := ⟨_, List.getElem?_eq_getElem (by rw [HXL.out]; exact hlt)⟩
      obtain ⟨y, hyk⟩ : ∃ y, ys[k]? = some y := ⟨_, List.getElem?_eq_getElem (by rw [HYL.out]; exact hlt)⟩
      obtain ⟨b1, o1, rfl, e0⟩ := float_at HX.out k hlt x hxk
      obtain ⟨b2, o2, rfl, e1⟩ := float_at HY.out k hlt y hyk
      have hkn : (k : Int) < (n : Int) := by omega
      have hk0 : (0 : Int) ≤ (k : Int) := by omega
      have hnat : ((k : Int)).toNat = k := by omega
      have hc := risingFn_any x y
      have HXK := Lib.hid hxk
      have HYK := Lib.hid hyk
      clear hxk hyk
      cases he : eqW x y with
      | true =>
        rw [he] at hc
        have HC := Lib.hid hc
        have HE := Lib.hid he
        clear hc he
        go_wp2_with fail
        refine (HC.out _).mono ?_
        rintro e w' ⟨rfl, rfl⟩
        go_wp2_with fail
        go_round
        case rel =>
         refine ⟨k + 1, by go_num, by omega, ?_⟩
         intro j x' y' hj hx' hy'
         by_cases h : j < k
         · exact HNO.out j x' y' h hx' hy'
         · obtain rfl : j = k := by omega
           rw [HXK.out] at hx'
           rw [HYK.out] at hy'
           injection hx' with hx'
           injection hy' with hy'
           rw [← hx', ← hy']; exact HE.out
        case measure => simp [intOf]; omega
      | false =>
        rw [he] at hc
        have HC := Lib.hid hc
        have HE := Lib.hid he
        clear hc he
        go_wp2_with fail
        refine (HC.out _).mono ?_
        rintro e w' ⟨rfl, rfl⟩
        go_wp2_with fail
        go_ret
        exact ⟨by rw [eqL_no eqW xs ys k x y HXK.out HYK.out HE.out]; rfl, rfl⟩
    · go_wp2_with fail
      go_ret
      exact ⟨by rw [eqL_all eqW xs ys (by rw [HXL.out, HYL.out]) (fun j x y hx hy => HNO.out j x y (by have := (List.getElem?_eq_some_iff.1 hx).1; rw [HXL.out] at this; omega) hx hy)]; rfl, rfl⟩
 · have hne : (((n : Nat) : Int) != ((m : Nat) : Int)) = true := by simp; omega
   go_enter Tryz.func93, Tryz.ntmps93
   go_wp2_with fail
   go_ret
   exact ⟨by rw [eqL_len eqW xs ys (by rw [HXL.out, HYL.out]; exact hnm)]; rfl, rfl⟩
end Go.Proofs.YtpknmfmpiachkaaGreat
namespace Go.Proofs.YtpknmfmpiachkaaGreat
open Go.RowKit
@[go_sem] theorem run_equalIn_float {P : Program} (w : World) (d : Nat) (t : TypeId) (k : FloatKind) (a b : Nat) (h : P.underlying t = some (.float k)) : (Op.equalIn (d + 1) t (.float k a) (.float k b)).run P w = .ok (Op.floatEq k a b) w := by
 simp [Op.equalIn, run_underlying h]
def eqSp (a b : Spn) : Bool := Flo.feq a.lo b.lo && Flo.feq a.hi b.hi && (a.lop == b.lop) && (a.hop == b.hop)
theorem run_eq_span (a b : Spn) (ha : a.ok) (hb : b.ok) (w : World) : (Op.equalIn 10000 101 (.agg #[.float .f64 a.lo, .float .f64 a.hi, .bool a.lop, .bool a.hop]) (.agg #[.float .f64 b.lo, .float .f64 b.hi, .bool b.lop, .bool b.hop])).run Tryz.prog w = .ok (eqSp a b) w := by
 have h1 : Op.floatEq .f64 a.lo b.lo = Flo.feq a.lo b.lo := Flo.run_eq _ _ ha.1 hb.1
 have h2 : Op.floatEq .f64 a.hi b.hi = Flo.feq a.hi b.hi := Flo.run_eq _ _ ha.2 hb.2
 unfold eqSp
 rw [← h1, ← h2]
 obtain ⟨alo, ahi, alop, ahop⟩ := a
 obtain ⟨blo, bhi, blop, bhop⟩ := b
 simp only
 clear h1 h2 ha hb
 generalize hx : Op.floatEq .f64 alo blo = x
 generalize hy : Op.floatEq .f64 ahi bhi = y
 cases x <;> cases y <;> cases alop <;> cases blop <;> cases ahop <;> cases bhop <;> go_simp
def sameS (a b : Spn) : Bool := eqSp a b && eqW a.lo b.lo && eqW a.hi b.hi
theorem eqW_int (x y : Nat) : ((x : Int) == (y : Int)) = eqW x y := by unfold eqW; rw [Bool.eq_iff_iff, beq_iff_eq, decide_eq_true_eq]; omega
set_option maxRecDepth 100000 in
set_option maxHeartbeats 3200000 in
theorem sameS_any (a b : Spn) (ha : a.ok) (hb : b.ok) (w : World) : Calls Tryz.prog 54 #[.agg #[.float .f64 a.lo, .float .f64 a.hi, .bool a.lop, .bool a.hop], .agg #[.float .f64 b.lo, .float .f64 b.hi, .bool b.lop, .bool b.hop]] w (RetBox w (.bool (sameS a b))) := by
 have hq := run_eq_span a b ha hb
 have hl := eqW_int a.lo b.lo
 have hh := eqW_int a.hi b.hi
 have hbits := bits64
 obtain ⟨R, hR⟩ : ∃ R, R = sameS a b := ⟨_, rfl⟩
 rw [← hR]
 unfold sameS at hR
 obtain ⟨alo, ahi, alop, ahop⟩ := a
 obtain ⟨blo, bhi, blop, bhop⟩ := b
 simp only at hq hl hh hR ⊢
 obtain ⟨E, hE⟩ : ∃ E, E = eqSp ⟨alo, ahi, alop, ahop⟩ ⟨blo, bhi, blop, bhop⟩ := ⟨_, rfl⟩
 rw [← hE] at hq hR
 obtain ⟨W, hW⟩ : ∃ W, W = (w.alloc (.cells #[.float .f64 alo, .float .f64 ahi, .bool alop, .bool ahop] 101)).alloc (.cells #[.float .f64 blo, .float .f64 bhi, .bool blop, .bool bhop] 101) := ⟨_, rfl⟩
 have hA : W.heap[w.heap.size]? = some (.cells #[.float .f64 alo, .float .f64 ahi, .bool alop, .bool ahop] 101 (0, 0)) := hW ▸ alloc_far (heap_alloc_new w _) (by rw [World.size_alloc]; omega)
 have hB : W.heap[w.heap.size + 1]? = some (.cells #[.float .f64 blo, .float .f64 bhi, .bool blop, .bool bhop] 101 (0, 0)) := hW ▸ alloc_new1 _ _ _
 have hbw : Below w.heap.size w W := hW ▸ below_alloc (below_alloc (Below.refl _ _) _) _
 obtain ⟨⟨a0, a1, a2, a3⟩, _⟩ := four_cells hA
 obtain ⟨⟨b0, b1, b2, b3⟩, _⟩ := four_cells hB
 have HW := Lib.hid hW
 have HBW := Lib.hid hbw
 clear hW hA hB hbw hE ha hb
 have key : (E = false ∧ R = false) ∨ (E = true ∧ eqW alo blo = false ∧ R = false) ∨ (E = true ∧ eqW alo blo = true ∧ R = eqW ahi bhi) := by
  rw [hR]; cases E <;> cases eqW alo blo <;> simp
 clear hR
 rcases key with ⟨rfl, rfl⟩ | ⟨rfl, h1, rfl⟩ | ⟨rfl, h1, hR⟩
 · clear hl hh
   go_enter Tryz.func54, Tryz.ntmps54
   go_wp2_with fail
   rw [← HW.out]
   go_quiet (fail)
   go_wp2_with fail
   go_ret
   exact ⟨rfl, below_drewN HBW.out _⟩
 · rw [h1] at hl
   clear hh h1
   go_enter Tryz.func54, Tryz.ntmps54
   go_wp2_with fail
   rw [← HW.out]
   go_quiet (fail)
   go_wp2_with fail
   go_ret
   exact ⟨rfl, below_drewN HBW.out _⟩
 · rw [h1] at hl
   rw [← hR] at hh
   clear hR h1
   go_enter Tryz.func54, Tryz.ntmps54
   go_wp2_with fail
   rw [← HW.out]
   go_quiet (fail)
   go_wp2_with fail
   go_ret
   exact ⟨rfl, below_drewN HBW.out _⟩
end Go.Proofs.YtpknmfmpiachkaaGreat
namespace Go.Proofs.YtpknmfmpiachkaaGreat
open Go.RowKit
set_option maxRecDepth 100000 in
set_option maxHeartbeats 3200000 in
theorem eqS_any (xs ys : List Spn) (hxo : ∀ s ∈ xs, s.ok) (hyo : ∀ s ∈ ys, s.ok) (a b : Option Addr) (n m cn cm : Nat) (w : World) (hx : RowN w a 4 n (xs.flatMap Spn.cells)) (hy : RowN w b 4 m (ys.flatMap Spn.cells)) (hxl : xs.length = n) (hyl : ys.length = m) (hn : n ≤ 1000000000000) (hm : m ≤ 1000000000000) :
 Calls Tryz.prog 52 #[.slice a n cn, .slice b m cm, .func (.func 54) #[] #[]] w (RetBox w (.bool (eqL sameS xs ys))) := by
 have HX := Lib.hid hx
 have HY := Lib.hid hy
 have HXL := Lib.hid hxl
 have HYL := Lib.hid hyl
 have HXO := Lib.hid hxo
 have HYO := Lib.hid hyo
 clear hx hy hxl hyl hxo hyo
 by_cases hnm : n = m
 · subst hnm
   go_enter Tryz.func52, Tryz.ntmps52
   go_wp2_with fail
   go_loopw [17] (fun i wr => ∃ k : Nat, i = .int .i64 k ∧ k ≤ n ∧ Hid (∀ (j : Nat) x y, j < k → xs[j]? = some x → ys[j]? = some y → sameS x y = true) ∧ Hid (Below w.heap.size w wr)) (fun i _ => n - (intOf i).toNat)
   case atStart => exact ⟨0, rfl, Nat.zero_le _, (fun j x y hj => absurd hj (by omega)), Below.refl _ _⟩
   case round =>
    obtain ⟨k, rfl, hk, HNO, HB⟩ := hrel
    by_cases hlt : k < n
    · obtain ⟨x, hxk⟩ : ∃ x, xs[k]? = some x := ⟨_, List.getElem?_eq_getElem (by rw [HXL.out]; exact hlt)⟩
      obtain ⟨y, hyk⟩ : ∃ y, ys[k]? = some y := ⟨_, List.getElem?_eq_getElem (by rw [HYL.out]; exact hlt)⟩
      obtain ⟨b1, o1, rfl, e0, e1, e2, e3⟩ := span_at (HX.out.below HB.out) HXL.out k hlt x hxk
      obtain ⟨Y1, hY1⟩ : ∃ Y1, Y1 = wr.alloc (.cells #[.float .f64 x.lo, .float .f64 x.hi, .bool x.lop, .bool x.hop] 101) := ⟨_, rfl⟩
      have hb1 : Below wr.heap.size wr Y1 := hY1 ▸ below_alloc (Below.refl _ _) _
      have hB1 : Y1.heap[wr.heap.size]? = some (.cells #[.float .f64 x.lo, .float .f64 x.hi, .bool x.lop, .bool x.hop] 101 (0, 0)) := hY1 ▸ heap_alloc_new wr _
      obtain ⟨b2, o2, rfl, g0, g1, g2, g3⟩ := span_at (HY.out.below (below_then HB.out hb1)) HYL.out k hlt y hyk
      obtain ⟨Y2, hY2⟩ : ∃ Y2, Y2 = Y1.alloc (.cells #[.float .f64 y.lo, .float .f64 y.hi, .bool y.lop, .bool y.hop] 101) := ⟨_, rfl⟩
      have hb2 : Below wr.heap.size wr Y2 := hY2 ▸ below_alloc hb1 _
      have hB2 : Y2.heap[wr.heap.size]? = some (.cells #[.float .f64 x.lo, .float .f64 x.hi, .bool x.lop, .bool x.hop] 101 (0, 0)) := hY2 ▸ alloc_keep hB1 _
      have hB3 : Y2.heap[Y1.heap.size]? = some (.cells #[.float .f64 y.lo, .float .f64 y.hi, .bool y.lop, .bool y.hop] 101 (0, 0)) := hY2 ▸ heap_alloc_new Y1 _
      obtain ⟨⟨c0, c1, c2, c3⟩, _⟩ := four_cells hB2
      obtain ⟨⟨d0, d1, d2, d3⟩, _⟩ := four_cells hB3
      have hkn : (k : Int) < (n : Int) := by omega
      have hk0 : (0 : Int) ≤ (k : Int) := by omega
      have hnat : ((k : Int)).toNat = k := by omega
      have hc := sameS_any x y (HXO.out x (List.mem_of_getElem? hxk)) (HYO.out y (List.mem_of_getElem? hyk))
      have HXK := Lib.hid hxk
      have HYK := Lib.hid hyk
      have HB2' := Lib.hid (below_then HB.out hb2)
      have HY1 := Lib.hid hY1
      have HY2 := Lib.hid hY2
      clear hxk hyk hb1 hb2 hB1 hB2 hB3 hY1 hY2
      cases he : sameS x y with
      | true =>
        rw [he] at hc
        have HC := Lib.hid hc
        have HE := Lib.hid he
        clear hc he
        go_upto_region 6 with fail
        rw [← HY1.out]
        go_upto_region 7 with fail
        rw [← HY2.out]
        clear e0 e1 e2 e3 g0 g1 g2 g3
        go_wp2_with fail
        refine (HC.out _).mono ?_
        rintro e w1 ⟨rfl, hb1⟩
        have HB1 := Lib.hid (below_then HB2'.out hb1)
        clear hb1
        go_wp2_with fail
        go_roundw
        case rel =>
         refine ⟨k + 1, by go_num, by omega, ?_, HB1.out⟩
         intro j x' y' hj hx' hy'
         by_cases h : j < k
         · exact HNO.out j x' y' h hx' hy'
         · obtain rfl : j = k := by omega
           rw [HXK.out] at hx'
           rw [HYK.out] at hy'
           injection hx' with hx'
           injection hy' with hy'
           rw [← hx', ← hy']; exact HE.out
        case measure => simp [intOf]; omega
      | false =>
        rw [he] at hc
        have HC := Lib.hid hc
        have HE := Lib.hid he
        clear hc he
        go_upto_region 6 with fail
        rw [← HY1.out]
        go_upto_region 7 with fail
        rw [← HY2.out]
        clear e0 e1 e2 e3 g0 g1 g2 g3
        go_wp2_with fail
        refine (HC.out _).mono ?_
        rintro e w1 ⟨rfl, hb1⟩
        have HB1 := Lib.hid (below_then HB2'.out hb1)
        clear hb1
        go_wp2_with fail
        go_ret
        exact ⟨by rw [eqL_no sameS xs ys k x y HXK.out HYK.out HE.out]; rfl, HB1.out⟩
    · go_wp2_with fail
      go_ret
      exact ⟨by rw [eqL_all sameS xs ys (by rw [HXL.out, HYL.out]) (fun j x y hx hy => HNO.out j x y (by have := (List.getElem?_eq_some_iff.1 hx).1; rw [HXL.out] at this; omega) hx hy)]; rfl, HB.out⟩
 · have hne : (((n : Nat) : Int) != ((m : Nat) : Int)) = true := by simp; omega
   go_enter Tryz.func52, Tryz.ntmps52
   go_wp2_with fail
   go_ret
   exact ⟨by rw [eqL_len sameS xs ys (by rw [HXL.out, HYL.out]; exact hnm)]; rfl, Below.refl _ _⟩
def coversS (ss : List Spn) (key : Nat) : Bool := ss.any fun s => hasS s key
set_option maxRecDepth 100000 in
set_option maxHeartbeats 1600000 in
theorem coversFn_any (key : Nat) (hkey : key < 18446744073709551616) (s : Spn) (hs : s.ok) (B : Nat) (w : World) (hB : w.cell? ⟨B, 0, none⟩ = some (.float .f64 key)) :
 Calls Tryz.prog 115 #[.agg #[.float .f64 s.lo, .float .f64 s.hi, .bool s.lop, .bool s.hop], .pointer (some ⟨B, 0, none⟩)] w (RetBox w (.bool (hasS s key))) := by
 have h := hasS_any s key hs hkey
 unfold Spn.agg at h
 obtain ⟨R, hR⟩ : ∃ R, R = hasS s key := ⟨_, rfl⟩
 rw [← hR] at h ⊢
 have H := Lib.hid h
 clear h hR hs
 have hlt := World.block_lt_of_cell? w _ hB
 simp only at hlt
 go_enter Tryz.func115, Tryz.ntmps115
 go_wp2_with fail
 refine (H.out _).mono ?_
 rintro e w1 ⟨rfl, hb1⟩
 have HB1 := Lib.hid (below_then (below_alloc (Below.refl _ _) _) hb1)
 clear hb1
 go_wp2_with fail
 go_ret
 exact ⟨rfl, HB1.out⟩
set_option maxRecDepth 100000 in
set_option maxHeartbeats 1600000 in
theorem covers_any (key : Nat) (hkey : key < 18446744073709551616) (ss : List Spn) (hss : ∀ s ∈ ss, s.ok) (a : Option Addr) (n cap : Nat) (w : World) (hrow : RowN w a 4 n (ss.flatMap Spn.cells)) (hl : ss.length = n) (hn : n ≤ 1000000000000) :
 Calls Tryz.prog 74 #[.slice a n cap, .float .f64 key] w (RetBox w (.bool (coversS ss key))) := by
 have eg : ∀ args w, (callFunc 115 args).run Tryz.prog w = .ok (.enter 115 args) w := enters_of Tryz.func115 (by kernel_rfl) rfl
 have h := containsS_any 115 #[.pointer (some ⟨w.heap.size, 0, none⟩)] (fun s => hasS s key) ss a n cap (w.alloc (.cells #[.float .f64 key] 63)) (hrow.alloc _) hl hn eg (fun s hs W hW => coversFn_any key hkey s (hss s hs) w.heap.size W ((hW.cell (p := ⟨w.heap.size, 0, none⟩) (by simp)).trans (by go_simp)))
 have H := Lib.hid h
 clear h hrow hl hss eg
 go_enter Tryz.func74, Tryz.ntmps74
 go_wp2_with fail
 refine H.out.mono ?_
 rintro e w1 ⟨rfl, hb1⟩
 have HB1 := Lib.hid (below_then (below_alloc (Below.refl _ _) _) hb1)
 clear hb1
 go_wp2_with fail
 go_ret
 exact ⟨rfl, HB1.out⟩
end Go.Proofs.YtpknmfmpiachkaaGreat
