/- The document's net: its small functions. -/
import Derived.Test.YtnjbhjgihcgefaaMadeMath
import Derived.Test.YtnjbhjgihcgefaaOpenOps
import Derived.Test.YtnjbhjgihcgefaaAlive
import Derived.BigQuiet
namespace Go.Proofs.Ytnjbhjgihcgefaa
open Go.RowKit

theorem load_three_ref {w : World} {B : Nat} {c0 c1 c2 : Value} (h : w.heap[B]? = some (.cells #[c0, c1, c2] 45 (0, 0))) : (loadVar 45 ⟨B, 0, none⟩).run Try.prog w = .ok (.agg #[c0, c1, c2]) w := by
  refine run_loadVar_mid w B 0 _ [c0, c1, c2] _ (fun j v hv => ?_) Try.underlying45 rfl (by kernel_rfl)
  simp only [World.cell?, h, Nat.zero_add]
  rw [← hv]
  simp
theorem load_two_ref {w : World} {B : Nat} {c0 c1 : Value} (h : w.heap[B]? = some (.cells #[c0, c1] 40 (0, 0))) : (loadVar 40 ⟨B, 0, none⟩).run Try.prog w = .ok (.agg #[c0, c1]) w := by
  refine run_loadVar_mid w B 0 _ [c0, c1] _ (fun j v hv => ?_) Try.underlying40 rfl (by kernel_rfl)
  simp only [World.cell?, h, Nat.zero_add]
  rw [← hv]
  simp

/-- It returns v; what was there is as it was. -/
def RetBox (w : World) (v : Value) (e : Ending) (w' : World) : Prop := e = .returned v ∧ Below w.heap.size w w'

theorem between_any (x lo hi : Int) (w : World) : Calls Try.prog 24 #[.int .i64 x, .int .i64 lo, .int .i64 hi] w (RetEq w (.int .i64 (if x < lo then lo else if hi < x then hi else x))) := by
  by_cases h1 : x < lo
  · rw [if_pos h1]
    go_enter Try.func24, Try.ntmps24
    go_wp2_with fail
    go_ret
    exact ⟨rfl, rfl⟩
  · rw [if_neg h1]
    by_cases h2 : hi < x
    · have h3 : x > hi := h2
      rw [if_pos h2]
      go_enter Try.func24, Try.ntmps24
      go_wp2_with fail
      go_ret
      exact ⟨rfl, rfl⟩
    · have h3 : ¬ x > hi := h2
      rw [if_neg h2]
      go_enter Try.func24, Try.ntmps24
      go_wp2_with fail
      go_ret
      exact ⟨rfl, rfl⟩

set_option maxRecDepth 100000 in
set_option maxHeartbeats 1600000 in
theorem rnew_any (x : Int) (w : World) : Calls Try.prog 13 #[.int .i64 x] w (RetBox w (.agg #[.int .i64 (mostOf x), .slice none 0 0])) := by
  have hm : (if x < 0 then (0 : Int) else if 1000 < x then 1000 else x) = mostOf x := rfl
  have hb := fun w => between_any x 0 1000 w
  rw [hm] at hb
  have HB := Lib.hid hb
  clear hb hm
  go_enter Try.func13, Try.ntmps13
  go_wp2_with fail
  refine (HB.out _).mono ?_
  rintro e w1 ⟨rfl, rfl⟩
  go_wp2_with fail
  exact bodyPost_ret (results_cell Try.results13 rfl (load_two_ref (heap_alloc_new w _))) rfl ⟨rfl, (Below.refl _ _).alloc (Nat.le_refl _) _⟩

set_option maxRecDepth 100000 in
set_option maxHeartbeats 1600000 in
theorem of_any (f t : Int) (a : Option Addr) (len cap : Nat) (w : World) : Calls Try.prog 16 #[.agg #[.int .i64 f, .int .i64 t, .slice a len cap]] w (RetBox w (.agg #[.int .i64 f, .int .i64 t, .slice a len cap])) := by
  go_enter Try.func16, Try.ntmps16
  go_wp2_with fail
  have hF := heap_alloc_new (w.alloc (.cells #[.int .i64 f, .int .i64 t, .slice a len cap] 30)) (.cells #[.int .i64 f, .int .i64 t, .slice a len cap] 45)
  rw [World.size_alloc] at hF
  exact bodyPost_ret (results_cell Try.results16 rfl (load_three_ref hF)) rfl ⟨rfl, ((Below.refl _ _).alloc (Nat.le_refl _) _).alloc (by rw [World.size_alloc]; omega) _⟩

set_option maxRecDepth 100000 in
set_option maxHeartbeats 3200000 in
theorem rsame_any (f t f' t' : Int) (a a' : Option Addr) (len cap len' cap' : Nat) (bs bs' : List UInt8) (w : World) (hr : Row8 w a len bs) (hr' : Row8 w a' len' bs') (hl : len ≤ maxLen) (hl' : len' ≤ maxLen) :
    Calls Try.prog 17 #[.agg #[.int .i64 f, .int .i64 t, .slice a len cap], .agg #[.int .i64 f', .int .i64 t', .slice a' len' cap']] w (RetBox w (.bool (decide (((f, t, bs) : Says) = (f', t', bs'))))) := by
  have hs := fun W (hW : Below w.heap.size w W) => same_any a a' len len' cap cap' bs bs' W (hr.below hW) (hr'.below hW) hl hl'
  have HS := Lib.hid hs
  clear hs hr hr'
  have hbw : Below w.heap.size w ((w.alloc (.cells #[.int .i64 f, .int .i64 t, .slice a len cap] 45)).alloc (.cells #[.int .i64 f', .int .i64 t', .slice a' len' cap'] 45)) := ((Below.refl _ _).alloc (Nat.le_refl _) _).alloc (by rw [World.size_alloc]; omega) _
  have hA := (heap_alloc_old (w.alloc (.cells #[.int .i64 f, .int .i64 t, .slice a len cap] 45)) (.cells #[.int .i64 f', .int .i64 t', .slice a' len' cap'] 45) (by rw [World.size_alloc]; omega)).trans (heap_alloc_new w (.cells #[.int .i64 f, .int .i64 t, .slice a len cap] 45))
  have hB := heap_alloc_new (w.alloc (.cells #[.int .i64 f, .int .i64 t, .slice a len cap] 45)) (.cells #[.int .i64 f', .int .i64 t', .slice a' len' cap'] 45)
  rw [World.size_alloc] at hB
  obtain ⟨x0, x1, x2, _, _, _⟩ := three_cells hA
  obtain ⟨y0, y1, y2, _, _, _⟩ := three_cells hB
  have HBW := Lib.hid hbw
  clear hbw hA hB
  by_cases hf : f = f'
  · subst hf
    by_cases ht : t = t'
    · subst ht
      go_enter Try.func17, Try.ntmps17
      go_wp2_with fail
      refine (HS.out _ HBW.out).mono ?_
      rintro e w2 ⟨rfl, q, rfl⟩
      go_wp2_with fail
      go_ret
      exact ⟨by simp, below_drewN HBW.out _⟩
    · have d2 : (t == t') = false := beq_eq_false_iff_ne.2 ht
      have d3 : decide (t = t') = false := decide_eq_false ht
      go_enter Try.func17, Try.ntmps17
      go_wp2_with fail
      go_ret
      exact ⟨by simp [ht], HBW.out⟩
  · have d1 : (f == f') = false := beq_eq_false_iff_ne.2 hf
    have d3 : decide (f = f') = false := decide_eq_false hf
    go_enter Try.func17, Try.ntmps17
    go_wp2_with fail
    go_ret
    exact ⟨by simp [hf], HBW.out⟩
end Go.Proofs.Ytnjbhjgihcgefaa
