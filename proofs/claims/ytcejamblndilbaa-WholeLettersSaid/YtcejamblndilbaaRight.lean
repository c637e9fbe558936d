/- conf.Right. -/
import Derived.Test.YtcejamblndilbaaConf1
namespace Go.Proofs.Ytcejamblndilbaa
open Go.RowKit

/-- numbers that rise, from 1 to 7 -/
def risingGo : Option Int → List Int → Bool
  | _, [] => true
  | p, z :: r => decide (1 ≤ z) && decide (z ≤ 7) && (match p with | none => true | some y => decide (y < z)) && risingGo (some z) r
def risingB (zs : List Int) : Bool := risingGo none zs
def prevZ (zs : List Int) (k : Nat) : Option Int := if k = 0 then none else zs[k - 1]?
theorem prevZ_succ {zs : List Int} {k : Nat} {z : Int} (h : zs[k]? = some z) : prevZ zs (k + 1) = some z := by simp [prevZ, h]
theorem drop_z {zs : List Int} {k : Nat} {z : Int} (h : zs[k]? = some z) : zs.drop k = z :: zs.drop (k + 1) := by
  obtain ⟨hl, h2⟩ := List.getElem?_eq_some_iff.1 h
  rw [List.drop_eq_getElem_cons hl, h2]

set_option maxRecDepth 100000 in
set_option maxHeartbeats 3200000 in
theorem rising_any (a : Option Addr) (n cap : Nat) (zs : List Int) (w : World) (hr : RowN w a 1 n (cellsZ zs)) (hn : n ≤ 9223372036854775807) :
    Calls Try.prog 74 #[.slice a n cap] w (RetQuiet w (.bool (risingB zs))) := by
  have hl : zs.length = n := by have := hr.1; rw [cellsZ_len] at this; omega
  obtain ⟨v, hv⟩ : ∃ v, v = risingB zs := ⟨_, rfl⟩
  rw [← hv]
  have HR := Lib.hid hr
  have HL := Lib.hid hl
  have HV := Lib.hid hv
  clear hr hl hv
  go_enter Try.func74, Try.ntmps74
  go_wp2_with fail
  go_loopw [7] (fun i wr => ∃ (k : Nat), k ≤ n ∧ i = .int .i64 k ∧ Hid (v = risingGo (prevZ zs k) (zs.drop k)) ∧ wr = w) (fun i _ => n - (intOf i).toNat)
  case atStart => exact ⟨0, Nat.zero_le _, rfl, HV.out, rfl⟩
  case round =>
    obtain ⟨k, hk, rfl, HG, hwr⟩ := hrel
    subst hwr
    by_cases hlt : k < n
    · obtain ⟨b, off, z, rfl, hz, hc⟩ := cellZ_at HR.out k hlt
      have hkn : (k : Int) < (n : Int) := by omega
      have HZ := Lib.hid hz
      have hg2 : v = (decide (1 ≤ z) && decide (z ≤ 7) && (match prevZ zs k with | none => true | some y => decide (y < z)) && risingGo (prevZ zs (k + 1)) (zs.drop (k + 1))) := by
        rw [HG.out, drop_z hz, prevZ_succ hz]
        rfl
      have HG2 := Lib.hid hg2
      clear hg2 hz
      by_cases h1 : z < 1
      · have hv0 : v = false := by rw [HG2.out, decide_eq_false (show ¬ (1 ≤ z) by omega)]; rfl
        subst hv0
        go_wp2_with fail
        go_ret
        exact ⟨rfl, 0, rfl⟩
      by_cases h7 : z > 7
      · have hv0 : v = false := by rw [HG2.out, decide_eq_false (show ¬ (z ≤ 7) by omega), Bool.and_false]; rfl
        subst hv0
        go_wp2_with fail
        go_ret
        exact ⟨rfl, 0, rfl⟩
      have h7' : ¬ 7 < z := h7
      cases k with
      | zero =>
        have hv1 : v = risingGo (prevZ zs 1) (zs.drop 1) := by
          rw [HG2.out, decide_eq_true (show 1 ≤ z by omega), decide_eq_true (show z ≤ 7 by omega)]
          simp [prevZ]
        have HV1 := Lib.hid hv1
        rw [Nat.add_zero] at hc
        clear hv1
        go_wp2_with fail
        go_roundw
        case rel => exact ⟨1, by omega, by go_num, HV1.out, by first | rfl | trivial⟩
        case measure => simp [intOf]; omega
      | succ m =>
        obtain ⟨b', off', y, he, hy, hcy⟩ := cellZ_at HR.out m (by omega)
        injection he with he
        injection he with h2 h3 _
        subst h2 h3
        have hp : prevZ zs (m + 1) = some y := prevZ_succ hy
        have hw2 : IntKind.i64.wrap (m : Int) = (m : Int) := by rw [IntKind.wrap_i64] <;> omega
        have hi2 : (m : Int) < (n : Int) := by omega
        have hm0 : (0 : Int) < (m : Int) + 1 := by omega
        have hv1 : v = (decide (y < z) && risingGo (prevZ zs (m + 2)) (zs.drop (m + 2))) := by
          rw [HG2.out, decide_eq_true (show 1 ≤ z by omega), decide_eq_true (show z ≤ 7 by omega), hp]
          rfl
        have HV1 := Lib.hid hv1
        clear hv1 hy hp
        by_cases hyz : y < z
        · have hyz' : ¬ z ≤ y := by omega
          have hv2 : v = risingGo (prevZ zs (m + 2)) (zs.drop (m + 2)) := by rw [HV1.out, decide_eq_true hyz]; rfl
          have HV2 := Lib.hid hv2
          clear hv2
          go_wp2_with fail
          go_roundw
          case rel => exact ⟨m + 2, by omega, by go_num, HV2.out, by first | rfl | trivial⟩
          case measure => simp [intOf]; omega
        · have hv0 : v = false := by rw [HV1.out, decide_eq_false hyz]; rfl
          subst hv0
          have hyz' : z ≤ y := by omega
          go_wp2_with fail
          go_ret
          exact ⟨rfl, 0, rfl⟩
    · have hd : zs.drop k = [] := List.drop_of_length_le (by rw [HL.out]; omega)
      have hv1 : v = true := by rw [HG.out, hd]; cases prevZ zs k <;> rfl
      subst hv1
      go_wp2_with fail
      go_ret
      exact ⟨rfl, 0, rfl⟩
end Go.Proofs.Ytcejamblndilbaa
