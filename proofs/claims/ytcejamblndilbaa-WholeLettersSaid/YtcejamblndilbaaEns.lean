/- Entries that are only read; the document's Same of entries (out of rlog's texts). -/
import Derived.Test.YtcejamblndilbaaDec2
import Derived.BigQuiet
namespace Go.Proofs.Ytcejamblndilbaa
open Go.RowKit

/-- what an entry says -/
def En.says (e : En) : Int × Int × Int × List UInt8 := (e.ix, e.tm, e.kd, e.s.bs)
/-- entries that are only read -/
structure EnR (w : World) (us : List En) (a : Option Addr) (n : Nat) : Prop where
  len : us.length = n
  row : RowN w a 4 n (us.flatMap En.cells)
  ok : ∀ u ∈ us, Row8 w u.s.a u.s.len u.s.bs ∧ u.s.len ≤ maxLen
theorem EnR.below {w w' : World} {us : List En} {a : Option Addr} {n : Nat} (h : EnR w us a n) (hb : Below w.heap.size w w') : EnR w' us a n := ⟨h.len, h.row.below hb, fun u hu => ⟨(h.ok u hu).1.below hb, (h.ok u hu).2⟩⟩
theorem says_cons {e f : En} {r s : List En} : (e :: r).map En.says = (f :: s).map En.says ↔ (e.ix = f.ix ∧ e.tm = f.tm ∧ e.kd = f.kd ∧ e.s.bs = f.s.bs) ∧ r.map En.says = s.map En.says := by
  simp [En.says]
theorem quiet_at {P : Program} {f : FuncId} {args : Array Value} {w : World} {q x : Nat} {v : Value} (h : Calls P f args (w.drewN (q + x)) (RetQuiet (w.drewN (q + x)) v)) : Calls P f args (w.drewN (q + x)) fun e w'' => e = .returned v ∧ ∃ n, w'' = w.drewN (q + n) :=
  h.mono fun e w'' ⟨h1, m, h2⟩ => ⟨h1, x + m, by rw [h2]; simp [Nat.add_assoc]⟩
set_option maxRecDepth 100000 in
set_option maxHeartbeats 6400000 in
theorem esame_any (a b : Option Addr) (n m cn cm : Nat) (xs ys : List En) (w : World) (hx : EnR w xs a n) (hy : EnR w ys b m) (hn : n ≤ maxLen) :
    Calls Try.prog 25 #[.slice a n cn, .slice b m cm] w (RetQuiet w (.bool (decide (xs.map En.says = ys.map En.says)))) := by
  simp only [maxLen] at hn
  have hxl := hx.len
  have hyl := hy.len
  have HX := Lib.hid hx
  have HY := Lib.hid hy
  have HXL := Lib.hid hxl
  have HYL := Lib.hid hyl
  clear hx hy hxl hyl
  by_cases hnm : n = m
  · subst hnm
    go_enter Try.func25, Try.ntmps25
    go_wp2
    go_loopw [5] (fun i wr => ∃ (k q : Nat), k ≤ n ∧ i = .int .i64 k ∧ Hid ((xs.take k).map En.says = (ys.take k).map En.says) ∧ wr = w.drewN q) (fun i _ => n - (intOf i).toNat)
    case atStart => exact ⟨0, 0, Nat.zero_le _, rfl, rfl, rfl⟩
    case round =>
      obtain ⟨k, q, hk, rfl, htk, rfl⟩ := hrel
      by_cases hlt : k < n
      · obtain ⟨x, hxk⟩ : ∃ x, xs[k]? = some x := ⟨_, List.getElem?_eq_getElem (by rw [HXL.out]; exact hlt)⟩
        obtain ⟨y, hyk⟩ : ∃ y, ys[k]? = some y := ⟨_, List.getElem?_eq_getElem (by rw [HYL.out]; exact hlt)⟩
        obtain ⟨b1, o1, rfl, c0, c1, c2, c3⟩ := en_at HX.out.row HXL.out k hlt x hxk
        obtain ⟨b2, o2, rfl, d0, d1, d2, d3⟩ := en_at HY.out.row HYL.out k hlt y hyk
        have hkn : (k : Int) < (n : Int) := by omega
        have hk0 : (0 : Int) ≤ (k : Int) := by omega
        have hnat : ((k : Int)).toNat = k := by omega
        have hsm := fun Z (hZ : Below w.heap.size w Z) => same_any x.s.a y.s.a x.s.len y.s.len x.s.cap y.s.cap x.s.bs y.s.bs Z ((HX.out.ok x (List.mem_of_getElem? hxk)).1.below hZ) ((HY.out.ok y (List.mem_of_getElem? hyk)).1.below hZ) (HX.out.ok x (List.mem_of_getElem? hxk)).2 (HY.out.ok y (List.mem_of_getElem? hyk)).2
        have hno : ¬ (x.ix = y.ix ∧ x.tm = y.tm ∧ x.kd = y.kd ∧ x.s.bs = y.s.bs) → xs.map En.says ≠ ys.map En.says := fun hc e => by
          have h1 : (xs.map En.says)[k]? = some x.says := by rw [List.getElem?_map, hxk]; rfl
          rw [e, List.getElem?_map, hyk] at h1
          injection h1 with h1
          simp only [En.says, Prod.mk.injEq] at h1
          exact hc ⟨h1.1.symm, h1.2.1.symm, h1.2.2.1.symm, h1.2.2.2.symm⟩
        have HXK := Lib.hid hxk
        have HYK := Lib.hid hyk
        have HNO := Lib.hid hno
        clear hxk hyk hno
        by_cases h0 : x.ix = y.ix
        · by_cases h1 : x.tm = y.tm
          · by_cases h2 : x.kd = y.kd
            · by_cases h3 : x.s.bs = y.s.bs
              · have e0 : (x.ix != y.ix) = false := by simp [h0]
                have e1 : (x.tm != y.tm) = false := by simp [h1]
                have e2 : (x.kd != y.kd) = false := by simp [h2]
                rw [decide_eq_true h3] at hsm
                have hsx : x.says = y.says := by simp [En.says, h0, h1, h2, h3]
                have HSX := Lib.hid hsx
                have HSM := Lib.hid hsm
                clear hsm hsx h0 h1 h2 h3
                go_wp2
                go_quiet ((go_at_call 12; exact quiet_at (HSM.out _ (below_drewN (Below.refl _ _) _))))
                go_wp2
                go_roundw
                case rel =>
                  refine ⟨k + 1, q + nq, by omega, by go_num, ?_, by simp⟩
                  show _ = _
                  rw [List.take_add_one, List.take_add_one, List.map_append, List.map_append, htk.out, HXK.out, HYK.out]
                  simp [HSX.out]
                case measure => simp [intOf]; omega
              · have e0 : (x.ix != y.ix) = false := by simp [h0]
                have e1 : (x.tm != y.tm) = false := by simp [h1]
                have e2 : (x.kd != y.kd) = false := by simp [h2]
                rw [decide_eq_false h3] at hsm
                have HQ := Lib.hid (HNO.out (fun h => h3 h.2.2.2))
                have HSM := Lib.hid hsm
                clear hsm h0 h1 h2 h3
                go_wp2
                go_quiet ((go_at_call 12; exact quiet_at (HSM.out _ (below_drewN (Below.refl _ _) _))))
                go_wp2
                go_ret
                exact ⟨by rw [decide_eq_false HQ.out]; rfl, q + nq, by simp⟩
            · have e0 : (x.ix != y.ix) = false := by simp [h0]
              have e1 : (x.tm != y.tm) = false := by simp [h1]
              have e2 : (x.kd != y.kd) = true := by simp [h2]
              have HQ := Lib.hid (HNO.out (fun h => h2 h.2.2.1))
              clear hsm h0 h1 h2
              go_wp2
              go_quiet (fail)
              go_wp2
              go_ret
              exact ⟨by rw [decide_eq_false HQ.out]; rfl, q + nq, by simp⟩
          · have e0 : (x.ix != y.ix) = false := by simp [h0]
            have e1 : (x.tm != y.tm) = true := by simp [h1]
            have HQ := Lib.hid (HNO.out (fun h => h1 h.2.1))
            clear hsm h0 h1
            go_wp2
            go_quiet (fail)
            go_wp2
            go_ret
            exact ⟨by rw [decide_eq_false HQ.out]; rfl, q + nq, by simp⟩
        · have e0 : (x.ix != y.ix) = true := by simp [h0]
          have HQ := Lib.hid (HNO.out (fun h => h0 h.1))
          clear hsm h0
          go_wp2
          go_quiet (fail)
          go_wp2
          go_ret
          exact ⟨by rw [decide_eq_false HQ.out]; rfl, q + nq, by simp⟩
      · go_wp2
        go_ret
        have hke : k = n := by omega
        subst hke
        refine ⟨?_, q, rfl⟩
        have hx2 := htk.out
        rw [List.take_of_length_le (by rw [HXL.out]; omega), List.take_of_length_le (by rw [HYL.out]; omega)] at hx2
        rw [decide_eq_true hx2]
        rfl
  · have hne : ((n : Int) != (m : Int)) = true := by simp; omega
    go_enter Try.func25, Try.ntmps25
    go_wp2
    go_ret
    refine ⟨?_, 0, rfl⟩
    have : xs.map En.says ≠ ys.map En.says := fun e => hnm (by have := congrArg List.length e; rw [List.length_map, List.length_map, HXL.out, HYL.out] at this; exact this)
    rw [decide_eq_false this]
    rfl
end Go.Proofs.Ytcejamblndilbaa
