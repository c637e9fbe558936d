/- Are all kinds right? -/
import Derived.Test.YtdpajcamgipgkaaReadMore
namespace Go.Proofs.Ytdpajcamgipgkaa
open Go.RowKit

def cellsI (zs : List Int) : List Value := zs.map fun z => Value.int .i64 z
theorem cellsI_len (zs : List Int) : (cellsI zs).length = zs.length := by simp [cellsI]
def badKind (z : Int) : Bool := decide (z < 1) || decide (4 < z)
theorem badKind_no {z : Int} (h : badKind z = false) : 1 ≤ z ∧ z ≤ 4 := by
  simp [badKind] at h
  omega

theorem cellI_at {w : World} {a : Option Addr} {n : Nat} {zs : List Int} (h : RowN w a 1 n (cellsI zs)) (k : Nat) (hk : k < n) :
    ∃ b off z, a = some ⟨b, off, none⟩ ∧ zs[k]? = some z ∧ w.cell? ⟨b, off + k, none⟩ = some (.int .i64 z) := by
  have hl : zs.length = n := by have := h.1; rw [cellsI_len] at this; omega
  obtain ⟨b, off, ha, hc⟩ := h.at k (by omega)
  refine ⟨b, off, zs[k]'(by omega), ha, List.getElem?_eq_getElem _, ?_⟩
  rw [hc]
  simp [cellsI]

theorem get1_any (z : Int) (w : World) : Calls Try.prog 60 #[.int .i64 z] w fun e w' => e = .returned (.bool (badKind z)) ∧ w = w' := by
  by_cases h1 : z < 1
  · go_enter Try.func60, Try.ntmps60
    go_wp2_with fail
    go_ret
    exact ⟨by simp [badKind, h1], rfl⟩
  · by_cases h4 : 4 < z
    · go_enter Try.func60, Try.ntmps60
      go_wp2_with fail
      go_ret
      exact ⟨by simp [badKind, h4], rfl⟩
    · go_enter Try.func60, Try.ntmps60
      go_wp2_with fail
      go_ret
      exact ⟨by simp [badKind, h1, h4], rfl⟩
theorem enters_get1 (args : Array Value) (w : World) : (callFunc 60 args).run Try.prog w = .ok (.enter 60 args) w := enters Try.func60 (by kernel_rfl) rfl args w

def RetIdx (w : World) (b : Bool) (e : Ending) (w' : World) : Prop := ∃ i : Int, e = .returned (.int .i64 i) ∧ decide (0 ≤ i) = b ∧ w = w'

set_option maxRecDepth 100000 in
set_option maxHeartbeats 1600000 in
theorem index_any (a : Option Addr) (n c : Nat) (zs : List Int) (w : World) (hr : RowN w a 1 n (cellsI zs)) (hn : n ≤ maxLen) :
    Calls Try.prog 70 #[.slice a n c, .func (.func 60) #[] #[]] w (RetIdx w (zs.any badKind)) := by
  have hcf := enters_get1
  simp only [maxLen] at hn
  have hl : zs.length = n := by have := hr.1; rw [cellsI_len] at this; omega
  subst hl
  have HR := Lib.hid hr
  clear hr
  go_enter Try.func70, Try.ntmps70
  go_wp2_with fail
  go_loopw [8] (fun i wr => ∃ k : Nat, i = .int .i64 k ∧ k ≤ zs.length ∧ Hid ((zs.take k).any badKind = false) ∧ SameW w wr) (fun i _ => zs.length - (intOf i).toNat)
  case atStart => exact ⟨0, rfl, by omega, rfl, rfl⟩
  case round =>
    obtain ⟨k, rfl, hk, HA, hsame⟩ := hrel
    have hsame : w = wr := hsame
    subst hsame
    by_cases hlt : k < zs.length
    · obtain ⟨b, off, z, rfl, hz, hcell⟩ := cellI_at HR.out k hlt
      have hkl : (k : Int) < (zs.length : Int) := by omega
      go_wp2_with fail
      refine (get1_any z _).mono ?_
      rintro e w1 ⟨rfl, rfl⟩
      cases hb : badKind z with
      | true =>
        have ha : zs.any badKind = true := List.any_eq_true.2 ⟨z, List.mem_of_getElem? hz, hb⟩
        have HAA := Lib.hid ha
        clear ha hb hz
        go_wp2_with fail
        go_ret
        exact ⟨k, rfl, by rw [HAA.out]; simp, rfl⟩
      | false =>
        have ha : (zs.take (k + 1)).any badKind = false := by
          rw [List.take_add_one, hz]
          simp [HA.out, hb]
        have HAA := Lib.hid ha
        clear ha hb hz
        go_wp2_with fail
        go_roundw
        case rel => exact ⟨k + 1, by go_num, by omega, HAA, rfl⟩
        case measure => simp [intOf]; omega
    · have hke : k = zs.length := by omega
      subst hke
      go_wp2_with fail
      go_ret
      exact ⟨-1, rfl, by have := HA.out; rw [List.take_length] at this; rw [this]; rfl, rfl⟩

theorem contains_any (a : Option Addr) (n c : Nat) (zs : List Int) (w : World) (hr : RowN w a 1 n (cellsI zs)) (hn : n ≤ maxLen) :
    Calls Try.prog 59 #[.slice a n c, .func (.func 60) #[] #[]] w fun e w' => e = .returned (.bool (zs.any badKind)) ∧ w = w' := by
  have hc := index_any a n c zs w hr hn
  have HC := Lib.hid hc
  clear hc hr
  go_enter Try.func59, Try.ntmps59
  go_wp2_with fail
  refine HC.out.mono ?_
  rintro e w1 ⟨i, rfl, hi, rfl⟩
  have HI := Lib.hid hi
  clear hi
  go_wp2_with fail
  go_ret
  exact ⟨by rw [← HI.out]; rfl, rfl⟩
end Go.Proofs.Ytdpajcamgipgkaa
