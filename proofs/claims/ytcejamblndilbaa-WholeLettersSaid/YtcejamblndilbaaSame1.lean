/- slices.Equal, of bytes and of numbers; msg.Same's closure; slices.EqualFunc with it. -/
import Derived.Test.YtcejamblndilbaaEns
import Derived.BigQuiet
namespace Go.Proofs.Ytcejamblndilbaa
open Go.RowKit

set_option maxHeartbeats 800000 in
theorem eq8_any (a b : Option Addr) (n m cn cm : Nat) (xs ys : List UInt8) (w : World) (hx : Row8 w a n xs) (hy : Row8 w b m ys) (hn : n ≤ maxLen) (_hm : m ≤ maxLen) :
    Calls Try.prog 55 #[.slice a n cn, .slice b m cm] w (RetQuiet w (.bool (decide (xs = ys)))) := by
  unfold maxLen at hn
  have HX := Lib.hid hx
  have HY := Lib.hid hy
  clear hx hy
  by_cases hnm : n = m
  · subst hnm
    go_enter Try.func55, Try.ntmps55
    go_wp2
    go_loopw [13] (fun i wr => ∃ (k q : Nat), k ≤ n ∧ i = .int .i64 k ∧ Hid (xs.take k = ys.take k) ∧ wr = w.drewN q) (fun i _ => n - (intOf i).toNat)
    case atStart => exact ⟨0, 0, Nat.zero_le _, rfl, rfl, rfl⟩
    case round =>
      obtain ⟨k, q, hk, rfl, htk, rfl⟩ := hrel
      by_cases hlt : k < n
      · obtain ⟨b1, o1, rfl, c, hc, hcb, hcell⟩ := HX.out.at k hlt
        obtain ⟨b2, o2, rfl, d, hd, hdb, hdell⟩ := HY.out.at k hlt
        have hkn : (k : Int) < (n : Int) := by omega
        have hk0 : (0 : Int) ≤ (k : Int) := by omega
        have hnat : ((k : Int)).toNat = k := by omega
        by_cases hcd : c = d
        · subst hcd
          go_wp2
          go_quiet (fail)
          go_wp2
          go_roundw
          case rel =>
            refine ⟨k + 1, q + nq, by omega, by go_num, ?_, by simp⟩
            show _ = _
            rw [List.take_succ_eq_append_getElem (by rw [HX.out.1]; exact hlt), List.take_succ_eq_append_getElem (by rw [HY.out.1]; exact hlt), htk.out]
            have e1 := hcb.out
            have e2 := hdb.out
            rw [List.getD_eq_getElem?_getD, List.getElem?_eq_getElem (by rw [HX.out.1]; exact hlt)] at e1
            rw [List.getD_eq_getElem?_getD, List.getElem?_eq_getElem (by rw [HY.out.1]; exact hlt)] at e2
            have e3 : xs[k]'(by rw [HX.out.1]; exact hlt) = ys[k]'(by rw [HY.out.1]; exact hlt) := UInt8.toNat_inj.1 (e1.trans e2.symm)
            rw [e3]
          case measure => simp [intOf]; omega
        · have hne : ((c : Int) != (d : Int)) = true := by simp; omega
          go_wp2
          go_quiet (fail)
          go_wp2
          go_ret
          refine ⟨?_, q + nq, by simp⟩
          have hxy : xs ≠ ys := fun e => hcd (by rw [← hcb.out, ← hdb.out, e])
          rw [decide_eq_false hxy]
          rfl
      · go_wp2
        go_ret
        have hke : k = n := by omega
        subst hke
        refine ⟨?_, q, rfl⟩
        have hx2 := htk.out
        rw [List.take_of_length_le (by rw [HX.out.1]; omega), List.take_of_length_le (by rw [HY.out.1]; omega)] at hx2
        rw [decide_eq_true hx2]
        rfl
  · have hne : ((n : Int) != (m : Int)) = true := by simp; omega
    go_enter Try.func55, Try.ntmps55
    go_wp2
    go_ret
    refine ⟨?_, 0, rfl⟩
    have : xs ≠ ys := fun e => hnm (by rw [← HX.out.1, ← HY.out.1, e])
    rw [decide_eq_false this]
    rfl


set_option maxHeartbeats 1600000 in
theorem eqZ_any (a b : Option Addr) (n m cn cm : Nat) (xs ys : List Int) (w : World) (hx : RowN w a 1 n (cellsZ xs)) (hy : RowN w b 1 m (cellsZ ys)) (hn : n ≤ 9223372036854775807) :
    Calls Try.prog 56 #[.slice a n cn, .slice b m cm] w (RetQuiet w (.bool (decide (xs = ys)))) := by
  have hxl : xs.length = n := by have := hx.1; rw [cellsZ_len] at this; omega
  have hyl : ys.length = m := by have := hy.1; rw [cellsZ_len] at this; omega
  have HX := Lib.hid hx
  have HY := Lib.hid hy
  have HXL := Lib.hid hxl
  have HYL := Lib.hid hyl
  clear hx hy hxl hyl
  by_cases hnm : n = m
  · subst hnm
    go_enter Try.func56, Try.ntmps56
    go_wp2
    go_loopw [13] (fun i wr => ∃ (k q : Nat), k ≤ n ∧ i = .int .i64 k ∧ Hid (xs.take k = ys.take k) ∧ wr = w.drewN q) (fun i _ => n - (intOf i).toNat)
    case atStart => exact ⟨0, 0, Nat.zero_le _, rfl, rfl, rfl⟩
    case round =>
      obtain ⟨k, q, hk, rfl, htk, rfl⟩ := hrel
      by_cases hlt : k < n
      · obtain ⟨b1, o1, x, rfl, hxk, hcell⟩ := cellZ_at HX.out k hlt
        obtain ⟨b2, o2, y, rfl, hyk, hdell⟩ := cellZ_at HY.out k hlt
        have hkn : (k : Int) < (n : Int) := by omega
        have hk0 : (0 : Int) ≤ (k : Int) := by omega
        have hnat : ((k : Int)).toNat = k := by omega
        by_cases hcd : x = y
        · subst hcd
          have HXK := Lib.hid hxk
          have HYK := Lib.hid hyk
          clear hxk hyk
          go_wp2
          go_quiet (fail)
          go_wp2
          go_roundw
          case rel =>
            refine ⟨k + 1, q + nq, by omega, by go_num, ?_, by simp⟩
            show _ = _
            rw [List.take_add_one, List.take_add_one, htk.out, HXK.out, HYK.out]
          case measure => simp [intOf]; omega
        · have hne : (x != y) = true := by simp; exact hcd
          have hxy : xs ≠ ys := fun e => hcd (by rw [e, hyk] at hxk; injection hxk with h; exact h.symm)
          have HXY := Lib.hid hxy
          clear hxk hyk hxy
          go_wp2
          go_quiet (fail)
          go_wp2
          go_ret
          refine ⟨?_, q + nq, by simp⟩
          rw [decide_eq_false HXY.out]
          rfl
      · go_wp2
        go_ret
        have hke : k = n := by omega
        subst hke
        refine ⟨?_, q, rfl⟩
        have hx2 := htk.out
        rw [List.take_of_length_le (by rw [HXL.out]; omega), List.take_of_length_le (by rw [HYL.out]; omega)] at hx2
        rw [decide_eq_true hx2]
        rfl
  · have hne : ((n : Int) != (m : Int)) = true := by simp; omega
    go_enter Try.func56, Try.ntmps56
    go_wp2
    go_ret
    refine ⟨?_, 0, rfl⟩
    have : xs ≠ ys := fun e => hnm (by rw [← HXL.out, ← HYL.out, e])
    rw [decide_eq_false this]
    rfl


set_option maxRecDepth 100000 in
set_option maxHeartbeats 3200000 in
theorem same1_any (x y : En) (w : World) (hx : Sl.ok w x.s) (hy : Sl.ok w y.s) :
    Calls Try.prog 54 #[.agg #[.int .i64 x.ix, .int .i64 x.tm, .int .i64 x.kd, .slice x.s.a x.s.len x.s.cap], .agg #[.int .i64 y.ix, .int .i64 y.tm, .int .i64 y.kd, .slice y.s.a y.s.len y.s.cap]] w (RetBox w (.bool (decide (x.says = y.says)))) := by
  obtain ⟨v, hv⟩ : ∃ v, v = decide (x.says = y.says) := ⟨_, rfl⟩
  rw [← hv]
  have hv2 : v = (decide (x.ix = y.ix) && (decide (x.tm = y.tm) && (decide (x.kd = y.kd) && decide (x.s.bs = y.s.bs)))) := by rw [hv]; simp [En.says]
  have HV := Lib.hid hv2
  have heq := fun (Z : World) (h1 : Below w.heap.size w Z) => eq8_any x.s.a y.s.a x.s.len y.s.len x.s.cap y.s.cap x.s.bs y.s.bs Z (hx.1.below h1) (hy.1.below h1) (Nat.le_trans hx.2.1 hx.2.2.1) (Nat.le_trans hy.2.1 hy.2.2.1)
  have HEQ := Lib.hid heq
  clear hv hv2 hx hy heq
  obtain ⟨xi, xt, xk, xs⟩ := x
  obtain ⟨yi, yt, yk, ys⟩ := y
  simp only at HV HEQ ⊢
  have hb2 := below_alloc (below_alloc (Below.refl w.heap.size w) (.cells #[.int .i64 xi, .int .i64 xt, .int .i64 xk, .slice xs.a xs.len xs.cap] 41)) (.cells #[.int .i64 yi, .int .i64 yt, .int .i64 yk, .slice ys.a ys.len ys.cap] 41)
  have HB2 := Lib.hid hb2
  clear hb2
  by_cases h1 : xi = yi
  case neg =>
    have hv : v = false := by rw [HV.out, decide_eq_false h1, Bool.false_and]
    subst hv
    have b1 : (xi == yi) = false := by simp [h1]
    clear h1 HV
    go_enter Try.func54, Try.ntmps54
    go_wp2_with fail
    go_ret
    exact ⟨rfl, HB2.out⟩
  by_cases h2 : xt = yt
  case neg =>
    have hv : v = false := by rw [HV.out, decide_eq_false h2, Bool.false_and, Bool.and_false]
    subst hv
    have b1 : (xt == yt) = false := by simp [h2]
    subst h1
    clear h2 HV
    go_enter Try.func54, Try.ntmps54
    go_wp2_with fail
    go_ret
    exact ⟨rfl, HB2.out⟩
  by_cases h3 : xk = yk
  case neg =>
    have hv : v = false := by rw [HV.out, decide_eq_false h3, Bool.false_and, Bool.and_false, Bool.and_false]
    subst hv
    have b1 : (xk == yk) = false := by simp [h3]
    subst h1 h2
    clear h3 HV
    go_enter Try.func54, Try.ntmps54
    go_wp2_with fail
    go_ret
    exact ⟨rfl, HB2.out⟩
  subst h1 h2 h3
  have hv : decide (xs.bs = ys.bs) = v := by rw [HV.out]; simp
  rw [hv] at HEQ
  clear hv HV
  go_enter Try.func54, Try.ntmps54
  go_wp2_with fail
  refine (HEQ.out _ HB2.out).mono ?_
  rintro e w3 ⟨rfl, q, rfl⟩
  cases v
  all_goals
    go_wp2_with fail
    go_ret
    exact ⟨rfl, below_drewN HB2.out _⟩

theorem says_snoc {xs ys : List En} {k : Nat} {x y : En} (hx : xs[k]? = some x) (hy : ys[k]? = some y) (h : (xs.take k).map En.says = (ys.take k).map En.says) (he : x.says = y.says) : (xs.take (k + 1)).map En.says = (ys.take (k + 1)).map En.says := by
  rw [List.take_add_one, List.take_add_one, hx, hy, List.map_append, List.map_append, h]
  simp [he]
set_option maxRecDepth 100000 in
set_option maxHeartbeats 6400000 in
theorem eqFunc_any (a b : Option Addr) (n m cn cm : Nat) (xs ys : List En) (w : World) (hx : RowN w a 4 n (xs.flatMap En.cells)) (hxl : xs.length = n) (hxo : ∀ e ∈ xs, Sl.ok w e.s) (hy : RowN w b 4 m (ys.flatMap En.cells)) (hyl : ys.length = m) (hyo : ∀ e ∈ ys, Sl.ok w e.s) (hn : n ≤ 9223372036854775807) :
    Calls Try.prog 53 #[.slice a n cn, .slice b m cm, .func (.func 54) #[] #[]] w (RetBox w (.bool (decide (xs.map En.says = ys.map En.says)))) := by
  have HX := Lib.hid hx
  have HY := Lib.hid hy
  have HXL := Lib.hid hxl
  have HYL := Lib.hid hyl
  have HXO := Lib.hid hxo
  have HYO := Lib.hid hyo
  clear hx hy hxl hyl hxo hyo
  have henter : ∀ (args : Array Value) (w : World), (callFunc 54 args).run Try.prog w = .ok (.enter 54 args) w := enters Try.func54 (by kernel_rfl) rfl
  by_cases hnm : n = m
  · subst hnm
    go_enter Try.func53, Try.ntmps53
    go_wp2
    go_loopw [17] (fun i wr => ∃ (k : Nat), k ≤ n ∧ i = .int .i64 k ∧ Hid ((xs.take k).map En.says = (ys.take k).map En.says) ∧ Hid (Below w.heap.size w wr)) (fun i _ => n - (intOf i).toNat)
    case atStart => exact ⟨0, Nat.zero_le _, rfl, rfl, Below.refl _ _⟩
    case round =>
      obtain ⟨k, hk, rfl, HT, HB⟩ := hrel
      by_cases hlt : k < n
      · obtain ⟨x, hxk⟩ : ∃ e, xs[k]? = some e := ⟨_, List.getElem?_eq_getElem (by rw [HXL.out]; exact hlt)⟩
        obtain ⟨y, hyk⟩ : ∃ e, ys[k]? = some e := ⟨_, List.getElem?_eq_getElem (by rw [HYL.out]; exact hlt)⟩
        obtain ⟨b1, o1, rfl, e0, e1, e2, e3⟩ := en_at (HX.out.below HB.out) HXL.out k hlt x hxk
        obtain ⟨b2, o2, rfl, f0, f1, f2, f3⟩ := en_at (HY.out.below (below_then HB.out (below_alloc (Below.refl wr.heap.size wr) (.cells #[.int .i64 x.ix, .int .i64 x.tm, .int .i64 x.kd, .slice x.s.a x.s.len x.s.cap] 41)))) HYL.out k hlt y hyk
        have hkn : (k : Int) < (n : Int) := by omega
        have hk0 : (0 : Int) ≤ (k : Int) := by omega
        have hnat : ((k : Int)).toNat = k := by omega
        have hb2 := fun o1 o2 => below_then HB.out (below_alloc (below_alloc (Below.refl wr.heap.size wr) o1) o2)
        have hcall := fun o1 o2 => same1_any x y ((wr.alloc o1).alloc o2) ((HXO.out x (List.mem_of_getElem? hxk)).below (hb2 o1 o2)) ((HYO.out y (List.mem_of_getElem? hyk)).below (hb2 o1 o2))
        have HXK := Lib.hid hxk
        have HYK := Lib.hid hyk
        have HB2 := Lib.hid hb2
        have HC := Lib.hid hcall
        clear hxk hyk hb2 hcall
        obtain ⟨xi, xt, xk, xsl⟩ := x
        obtain ⟨yi, yt, yk, ysl⟩ := y
        simp only at e0 e1 e2 e3 f0 f1 f2 f3 HC
        go_wp2_with fail
        refine (HC.out _ _).mono ?_
        rintro e w3 ⟨rfl, hb3⟩
        have HB3 := Lib.hid (below_then (HB2.out _ _) hb3)
        clear hb3
        by_cases hsx : ({ ix := xi, tm := xt, kd := xk, s := xsl } : En).says = ({ ix := yi, tm := yt, kd := yk, s := ysl } : En).says
        · rw [decide_eq_true hsx]
          have hsn := says_snoc HXK.out HYK.out HT.out hsx
          have HSN := Lib.hid hsn
          clear hsn hsx e0 e1 e2 e3 f0 f1 f2 f3
          go_wp2_with fail
          go_roundw
          case rel => exact ⟨k + 1, by omega, by go_num, HSN.out, HB3.out⟩
          case measure => simp [intOf]; omega
        · rw [decide_eq_false hsx]
          have hne : List.map En.says xs ≠ List.map En.says ys := fun h => by
            have h1 := congrArg (fun l => l[k]?) h
            simp only [List.getElem?_map, HXK.out, HYK.out, Option.map_some, Option.some.injEq] at h1
            exact hsx h1
          have HNE := Lib.hid hne
          clear hne hsx e0 e1 e2 e3 f0 f1 f2 f3
          go_wp2_with fail
          go_ret
          refine ⟨?_, HB3.out⟩
          rw [decide_eq_false HNE.out]
          rfl
      · go_wp2
        go_ret
        have hke : k = n := by omega
        subst hke
        refine ⟨?_, HB.out⟩
        have hx2 := HT.out
        rw [List.take_of_length_le (by rw [HXL.out]; omega), List.take_of_length_le (by rw [HYL.out]; omega)] at hx2
        rw [decide_eq_true hx2]
        rfl
  · have hne : ((n : Int) != (m : Int)) = true := by simp; omega
    go_enter Try.func53, Try.ntmps53
    go_wp2
    go_ret
    refine ⟨?_, Below.refl _ _⟩
    have : xs.map En.says ≠ ys.map En.says := fun e => hnm (by rw [← HXL.out, ← HYL.out]; simpa using congrArg List.length e)
    rw [decide_eq_false this]
    rfl
end Go.Proofs.Ytcejamblndilbaa
