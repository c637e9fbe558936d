/- slices.Equal, of bytes and of numbers (the walks of SameBytes and SameInts turned to it); msg.Same's closure. -/
import Derived.Test.YtcejamblndilbaaEns
import Derived.BigQuiet
namespace Go.Proofs.Ytcejamblndilbaa
open Go.RowKit

set_option maxHeartbeats 800000 in
theorem eq8_any (a b : Option Addr) (n m cn cm : Nat) (xs ys : List UInt8) (w : World) (hx : Row8 w a n xs) (hy : Row8 w b m ys) (hn : n ≤ maxLen) (_hm : m ≤ maxLen) :
    Calls Try.prog 55 #[.slice a n cn, .slice b m cm] w (RetQuiet w (.bool (decide (xs = ys)))) := by
  unfold maxLen at hn
  have HX := Lib.hid hx
  have HY := Lib.hid hy
  clear hx hy
  by_cases hnm : n = m
  · subst hnm
    go_enter Try.func55, Try.ntmps55
    go_wp2
    go_loopw [13] (fun i wr => ∃ (k q : Nat), k ≤ n ∧ i = .int .i64 k ∧ Hid (xs.take k = ys.take k) ∧ wr = w.drewN q) (fun i _ => n - (intOf i).toNat)
    case atStart => exact ⟨0, 0, Nat.zero_le _, rfl, rfl, rfl⟩
    case round =>
      obtain ⟨k, q, hk, rfl, htk, rfl⟩ := hrel
      by_cases hlt : k < n
      · obtain ⟨b1, o1, rfl, c, hc, hcb, hcell⟩ := HX.out.at k hlt
        obtain ⟨b2, o2, rfl, d, hd, hdb, hdell⟩ := HY.out.at k hlt
        have hkn : (k : Int) < (n : Int) := by omega
        have hk0 : (0 : Int) ≤ (k : Int) := by omega
        have hnat : ((k : Int)).toNat = k := by omega
        by_cases hcd : c = d
        · subst hcd
          go_wp2
          go_quiet (fail)
          go_wp2
          go_roundw
          case rel =>
            refine ⟨k + 1, q + nq, by omega, by go_num, ?_, by simp⟩
            show _ = _
            rw [List.take_succ_eq_append_getElem (by rw [HX.out.1]; exact hlt), List.take_succ_eq_append_getElem (by rw [HY.out.1]; exact hlt), htk.out]
            have e1 := hcb.out
            have e2 := hdb.out
            rw [List.getD_eq_getElem?_getD, List.getElem?_eq_getElem (by rw [HX.out.1]; exact hlt)] at e1
            rw [List.getD_eq_getElem?_getD, List.getElem?_eq_getElem (by rw [HY.out.1]; exact hlt)] at e2
            have e3 : xs[k]'(by rw [HX.out.1]; exact hlt) = ys[k]'(by rw [HY.out.1]; exact hlt) := UInt8.toNat_inj.1 (e1.trans e2.symm)
            rw [e3]
          case measure => simp [intOf]; omega
        · have hne : ((c : Int) != (d : Int)) = true := by simp; omega
          go_wp2
          go_quiet (fail)
          go_wp2
          go_ret
          refine ⟨?_, q + nq, by simp⟩
          have hxy : xs ≠ ys := fun e => hcd (by rw [← hcb.out, ← hdb.out, e])
          rw [decide_eq_false hxy]
          rfl
      · go_wp2
        go_ret
        have hke : k = n := by omega
        subst hke
        refine ⟨?_, q, rfl⟩
        have hx2 := htk.out
        rw [List.take_of_length_le (by rw [HX.out.1]; omega), List.take_of_length_le (by rw [HY.out.1]; omega)] at hx2
        rw [decide_eq_true hx2]
        rfl
  · have hne : ((n : Int) != (m : Int)) = true := by simp; omega
    go_enter Try.func55, Try.ntmps55
    go_wp2
    go_ret
    refine ⟨?_, 0, rfl⟩
    have : xs ≠ ys := fun e => hnm (by rw [← HX.out.1, ← HY.out.1, e])
    rw [decide_eq_false this]
    rfl


set_option maxHeartbeats 1600000 in
theorem eqZ_any (a b : Option Addr) (n m cn cm : Nat) (xs ys : List Int) (w : World) (hx : RowN w a 1 n (cellsZ xs)) (hy : RowN w b 1 m (cellsZ ys)) (hn : n ≤ 9223372036854775807) :
    Calls Try.prog 56 #[.slice a n cn, .slice b m cm] w (RetQuiet w (.bool (decide (xs = ys)))) := by
  have hxl : xs.length = n := by have := hx.1; rw [cellsZ_len] at this; omega
  have hyl : ys.length = m := by have := hy.1; rw [cellsZ_len] at this; omega
  have HX := Lib.hid hx
  have HY := Lib.hid hy
  have HXL := Lib.hid hxl
  have HYL := Lib.hid hyl
  clear hx hy hxl hyl
  by_cases hnm : n = m
  · subst hnm
    go_enter Try.func56, Try.ntmps56
    go_wp2
    go_loopw [13] (fun i wr => ∃ (k q : Nat), k ≤ n ∧ i = .int .i64 k ∧ Hid (xs.take k = ys.take k) ∧ wr = w.drewN q) (fun i _ => n - (intOf i).toNat)
    case atStart => exact ⟨0, 0, Nat.zero_le _, rfl, rfl, rfl⟩
    case round =>
      obtain ⟨k, q, hk, rfl, htk, rfl⟩ := hrel
      by_cases hlt : k < n
      · obtain ⟨b1, o1, x, rfl, hxk, hcell⟩ := cellZ_at HX.out k hlt
        obtain ⟨b2, o2, y, rfl, hyk, hdell⟩ := cellZ_at HY.out k hlt
        have hkn : (k : Int) < (n : Int) := by omega
        have hk0 : (0 : Int) ≤ (k : Int) := by omega
        have hnat : ((k : Int)).toNat = k := by omega
        by_cases hcd : x = y
        · subst hcd
          have HXK := Lib.hid hxk
          have HYK := Lib.hid hyk
          clear hxk hyk
          go_wp2
          go_quiet (fail)
          go_wp2
          go_roundw
          case rel =>
            refine ⟨k + 1, q + nq, by omega, by go_num, ?_, by simp⟩
            show _ = _
            rw [List.take_add_one, List.take_add_one, htk.out, HXK.out, HYK.out]
          case measure => simp [intOf]; omega
        · have hne : (x != y) = true := by simp; exact hcd
          have hxy : xs ≠ ys := fun e => hcd (by rw [e, hyk] at hxk; injection hxk with h; exact h.symm)
          have HXY := Lib.hid hxy
          clear hxk hyk hxy
          go_wp2
          go_quiet (fail)
          go_wp2
          go_ret
          refine ⟨?_, q + nq, by simp⟩
          rw [decide_eq_false HXY.out]
          rfl
      · go_wp2
        go_ret
        have hke : k = n := by omega
        subst hke
        refine ⟨?_, q, rfl⟩
        have hx2 := htk.out
        rw [List.take_of_length_le (by rw [HXL.out]; omega), List.take_of_length_le (by rw [HYL.out]; omega)] at hx2
        rw [decide_eq_true hx2]
        rfl
  · have hne : ((n : Int) != (m : Int)) = true := by simp; omega
    go_enter Try.func56, Try.ntmps56
    go_wp2
    go_ret
    refine ⟨?_, 0, rfl⟩
    have : xs ≠ ys := fun e => hnm (by rw [← HXL.out, ← HYL.out, e])
    rw [decide_eq_false this]
    rfl

end Go.Proofs.Ytcejamblndilbaa
