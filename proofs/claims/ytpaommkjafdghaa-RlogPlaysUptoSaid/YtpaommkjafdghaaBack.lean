/- slices.Backward over entries. -/
import Derived.RangeFuncNested
import Derived.RangeFuncBound
import Derived.RangeFuncCalls
import Derived.RangeFuncLeaves
import Derived.RangeFuncBox
import Derived.Shelf.Abstract
import Derived.Shelf.RegionOpen
import Derived.WalkKit
import Derived.OwnWalkIn
import Derived.TacticsInMore
import Derived.LoopNIn
import Derived.LoopIn
import Derived.Test.YtpaommkjafdghaaApp2
namespace Go.Proofs.Ytpaommkjafdghaa
open Go.RowKit Go.Shelf

attribute [local go_sem] Oper.semAt_some

/-- an entry, and where it stands -/
def BackE (es : List En) : Type := { x : Nat × En // es[x.1]? = some x.2 }
def En.val (e : En) : Value := .agg #[.int .i64 e.ix, .int .i64 e.tm, .int .i64 e.kd, .slice e.s.a e.s.len e.s.cap]
def encB (es : List En) (x : BackE es) : Array Value := #[.int .i64 (x.1.1 : Int), .agg #[.int .i64 x.1.2.ix, .int .i64 x.1.2.tm, .int .i64 x.1.2.kd, .slice x.1.2.s.a x.1.2.s.len x.1.2.s.cap]]
def entsB {es : List En} (pre : List (BackE es)) : List En := pre.map fun x => x.1.2
theorem rev_take {es : List En} {k j : Nat} {e : En} (hj : es.length = k + 1 + j) (he : es[j]? = some e) : es.reverse.take (k + 1) = es.reverse.take k ++ [e] := by
  have h : es.reverse[k]? = some e := by
    rw [List.getElem?_reverse (by omega), show es.length - 1 - k = j by omega]
    exact he
  rw [List.take_add_one, h]
  rfl
theorem RowN.belowB {w w' : World} {n₀ : Nat} {a : Option Addr} {size n : Nat} {vs : List Value} (h : RowN w a size n vs) (hb : Below n₀ w w') (ha : ∀ b off, a = some ⟨b, off, none⟩ → 0 < n → b < n₀) : RowN w' a size n vs := by
  refine ⟨h.1, fun hn => ?_⟩
  obtain ⟨b, off, e, hc⟩ := h.2 hn
  by_cases hs : 0 < n
  · exact ⟨b, off, e, fun j u hu => (hb.cell (p := ⟨b, off + j, none⟩) (ha b off e hs)).trans (hc j u hu)⟩
  · omega

set_option maxRecDepth 100000 in
set_option maxHeartbeats 3200000 in
theorem back1_in (F : Fence) (n : Nat) (hf : F.fn 55) (hro : F.round = none) (hn : 1 ≤ n) (l Bs n₀ : Nat) (ae : Option Addr) (len cap : Nat) (es : List En) (hlen : es.length = len) (hbig : len ≤ 2000000000000)
    (hb : ∀ b off, ae = some ⟨b, off, none⟩ → 0 < len → b < n₀) (hBs : Bs < n₀) (J Jx : List (BackE es) → World → Prop)
    (hY : ∀ pre x W, J pre W → pre.length < len → YieldAt F (n - 1) Try.prog l (encB es x) W fun e W' =>
      (e = .returned (.bool true) ∧ J (pre ++ [x]) W' ∧ Below n₀ W W') ∨ (e = .returned (.bool false) ∧ Jx (pre ++ [x]) W'))
    (W : World) (hBc : W.cell? ⟨Bs, 0, none⟩ = some (.slice ae len cap)) (hrow : RowN W ae 4 len (es.flatMap En.cells)) (h0 : J [] W) :
    CallsIn F n Try.prog 55 #[.func (.yield l) #[] #[], .pointer (some ⟨Bs, 0, none⟩)] W fun e W' => (∃ v, e = .returned v) ∧
      ((∃ ys, entsB ys = es.reverse ∧ J ys W') ∨ (∃ pre, (∃ k, k ≤ len ∧ entsB pre = es.reverse.take k) ∧ Jx pre W')) := by
  have HY := Lib.hid hY
  have HROW := Lib.hid hrow
  have HB := Lib.hid hb
  clear hY hrow hb
  have hw0 : IntKind.i64.wrap ((len : Int) - 1) = (len : Int) - 1 := by rw [IntKind.wrap_i64] <;> omega
  refine callsIn_of_wp Try.func55 rfl hf ?_ hro
  simp only [Try.ntmps55, List.size_toArray, List.length_cons, List.length_nil, Nat.reduceAdd, Nat.reduceSub, Array.replicate_succ, Array.replicate_zero, List.push_toArray, List.append_toArray, List.nil_append, List.cons_append]
  gi_wp2
  gi_loopw [3] (fun i wr => ∃ (k : Nat) (pre : List (BackE es)), k ≤ len ∧ i = .int .i64 ((len : Int) - 1 - k) ∧ pre.length = k ∧ Hid (entsB pre = es.reverse.take k) ∧ J pre wr ∧ Below n₀ W wr)
    (fun i _ => (intOf i + 1).toNat)
  case atStart => exact ⟨0, [], Nat.zero_le _, by simp, rfl, (show _ = _ by simp [entsB]), h0, Below.refl _ _⟩
  case round =>
    obtain ⟨k, pre, hk, rfl, hpl, HP, hJs, hnx⟩ := hrel
    have hbc := (hnx.cell (p := ⟨Bs, 0, none⟩) hBs).trans hBc
    by_cases hlt : k < len
    · obtain ⟨j, hj⟩ : ∃ j, len = k + 1 + j := ⟨len - 1 - k, by omega⟩
      have hji : (len : Int) - 1 - (k : Int) = (j : Int) := by omega
      obtain ⟨e, he⟩ : ∃ e, es[j]? = some e := ⟨_, List.getElem?_eq_getElem (by omega)⟩
      obtain ⟨b, off, hae, e0, e1, e2, e3⟩ := en_at (RowN.belowB HROW.out hnx HB.out) hlen j (by omega) e he
      subst hae
      have HE := Lib.hid he
      clear he
      obtain ⟨fn, tmps, assign, body, hy, hR⟩ := HY.out pre ⟨(j, e), HE.out⟩ wr hJs (by omega)
      dsimp only [encB] at hy
      have hjl : (j : Int) < (len : Int) := by omega
      have hj0 : (0 : Int) ≤ (j : Int) := by omega
      rw [hji]
      have hwj : IntKind.i64.wrap ((j : Int) - 1) = (j : Int) - 1 := by rw [IntKind.wrap_i64] <;> omega
      have HJI := Lib.hid hji
      have HHJ := Lib.hid hj
      clear hji hj
      gi_wp2
      refine hR.mono ?_
      rintro ee W3 (⟨rfl, hJ3, hk3⟩ | ⟨rfl, hJx3⟩)
      · gi_wp2
        go_roundw
        case rel =>
          refine ⟨k + 1, pre ++ [⟨(j, e), HE.out⟩], by omega, ?_, by rw [List.length_append, hpl]; rfl, ?_, hJ3, hnx.trans hk3⟩
          · congr 1
            have := HJI.out
            have := HHJ.out
            omega
          · show _ = _
            rw [rev_take (by rw [hlen]; exact HHJ.out) HE.out, ← HP.out, entsB, List.map_append]
            rfl
        case measure => simp [intOf]
      · gi_wp2
        refine bodyPost_ret (results_none rfl _ _ _) rfl ?_
        refine ⟨⟨_, rfl⟩, .inr ⟨_, ⟨k + 1, by omega, ?_⟩, hJx3⟩⟩
        rw [rev_take (by rw [hlen]; exact HHJ.out) HE.out, ← HP.out, entsB, List.map_append]
        rfl
    · obtain rfl : k = len := by omega
      have hneg : (k : Int) - 1 - (k : Int) = -1 := by omega
      rw [hneg]
      gi_wp2
      go_end0
      exact ⟨⟨_, rfl⟩, .inl ⟨pre, by rw [HP.out, List.take_of_length_le (by rw [List.length_reverse]; omega)], hJs⟩⟩
end Go.Proofs.Ytpaommkjafdghaa
