/- The document's GetNum. -/
import Derived.Test.YtpaommkjafdghaaRm2
namespace Go.Proofs.Ytpaommkjafdghaa
open Go.RowKit

def numK (bs : List UInt8) : Int × Nat := match numGo 0 0 bs with
  | none => (0, 0)
  | some (v, r) => (zag v, bs.length - r.length)
theorem numK_none {bs : List UInt8} (h : numGo 0 0 bs = none) : numK bs = (0, 0) := by rw [numK, h]
theorem numK_some {bs r : List UInt8} {v k : Nat} (h : numGo 0 0 bs = some (v, r)) (hr : bs.length - r.length = k) : numK bs = (zag v, k) := by rw [numK, h, ← hr]
theorem zag_odd {v : Nat} (h : v % 2 = 1) : zag v = -((v / 2 : Nat) : Int) - 1 := by rw [zag, if_pos h]
theorem zag_even {v : Nat} (h : ¬ v % 2 = 1) : zag v = ((v / 2 : Nat) : Int) := by rw [zag, if_neg h]

theorem ret_two_int {a b c d : Int} (h1 : a = c) (h2 : b = d) : Ending.returned (.tuple #[.int .i64 a, .int .i64 b]) = .returned (.tuple #[.int .i64 c, .int .i64 d]) := by rw [h1, h2]

theorem num_bounds (k un x : Nat) (hk : k ≤ 9) (hun : un < 2 ^ (7 * k)) (hx : k = 9 → x ≤ 1) : x % 128 * 2 ^ (7 * k) < 2 ^ 64 ∧ un + x % 128 * 2 ^ (7 * k) < 2 ^ 64 ∧ (k ≤ 8 → un + x % 128 * 2 ^ (7 * k) < 2 ^ (7 * (k + 1))) := by
  have hlt : x % 128 * 2 ^ (7 * k) + 2 ^ (7 * k) ≤ 128 * 2 ^ (7 * k) := by
    have := Nat.mul_le_mul_right (2 ^ (7 * k)) (show x % 128 + 1 ≤ 128 by omega)
    rw [Nat.add_mul, Nat.one_mul] at this
    exact this
  have hpp : 128 * 2 ^ (7 * k) = 2 ^ (7 * (k + 1)) := by rw [show 7 * (k + 1) = 7 * k + 7 by omega, Nat.pow_add, Nat.mul_comm]
  by_cases h9 : k = 9
  · subst h9
    have h1 : x % 128 ≤ 1 := by have := hx rfl; omega
    have := Nat.mul_le_mul_right (2 ^ 63) h1
    simp only [Nat.reduceMul] at hun ⊢
    refine ⟨by omega, by omega, fun h => by omega⟩
  · have : 2 ^ (7 * (k + 1)) ≤ 2 ^ 63 := Nat.pow_le_pow_right (by decide) (by omega)
    refine ⟨by omega, by omega, fun _ => by omega⟩

set_option maxRecDepth 100000 in
set_option maxHeartbeats 3200000 in
theorem refGetNum_any (a : Option Addr) (len cap : Nat) (bs : List UInt8) (w : World) (hr : Row8 w a len bs) (hl : len ≤ maxLen) :
    Calls Try.prog 56 #[.slice a len cap] w (RetTwo w (.int .i64 (numK bs).1) (.int .i64 ((numK bs).2 : Nat))) := by
  simp only [maxLen] at hl
  have hbl := hr.1
  have HR := Lib.hid hr
  have HBL := Lib.hid hbl
  clear hr hbl
  go_enter Try.func56, Try.ntmps56
  go_wp2_with fail
  go_loopw [4, 5] (fun u i wr => ∃ (un k : Nat), k ≤ 9 ∧ k ≤ len ∧ u = .int .u64 (un : Nat) ∧ i = .int .i64 k ∧ Hid (un < 2 ^ (7 * k)) ∧ Hid (numGo k un (bs.drop k) = numGo 0 0 bs) ∧ SameW w wr) (fun _ i _ => len - (intOf i).toNat)
  case atStart => exact ⟨0, 0, by omega, by omega, rfl, rfl, by show _ < _; decide, by show _ = _; rw [List.drop_zero], rfl⟩
  case round =>
    obtain ⟨un, k, hk9, hk, rfl, rfl, HUN, HGO, hsame⟩ := hrel
    have hsame : w = wr := hsame
    subst hsame
    by_cases hlt : k < len
    · obtain ⟨b, off, rfl, x, hx, hxb, hcell⟩ := HR.out.at k hlt
      have hd : bs.drop k = bs.getD k 0 :: bs.drop (k + 1) := by
        have hl' : k < bs.length := by rw [HBL.out]; exact hlt
        rw [List.getD_eq_getElem?_getD, List.getElem?_eq_getElem hl']
        exact List.drop_eq_getElem_cons hl'
      obtain ⟨c, hc⟩ : ∃ c, c = bs.getD k 0 := ⟨_, rfl⟩
      rw [← hc] at hd
      have hxc : c.toNat = x := by rw [hc]; exact hxb.out
      have HD := Lib.hid hd
      have HXC := Lib.hid hxc
      clear hd hxc hc hxb
      have hkl : (k : Int) < (len : Int) := by omega
      have hk10 : (k : Int) < 10 := by omega
      by_cases hf : k = 9 ∧ 1 < x
      · obtain ⟨rfl, hf2⟩ := hf
        have hf2' : (1 : Int) < (x : Int) := by omega
        have hno := numK_none (bs := bs) (by rw [← HGO.out, HD.out, numGo_fail _ _ _ _ (.inl ⟨rfl, by rw [HXC.out]; exact hf2⟩)])
        have HNO := Lib.hid hno
        clear hno
        go_wp2_with fail
        go_ret2
        rw [HNO.out]
        exact ⟨rfl, rfl⟩
      by_cases h0 : 0 < k ∧ x = 0
      · obtain ⟨h1, rfl⟩ := h0
        have h1' : (0 : Int) < (k : Int) := by omega
        have hno := numK_none (bs := bs) (by rw [← HGO.out, HD.out, numGo_fail _ _ _ _ (.inr ⟨h1, HXC.out⟩)])
        have HNO := Lib.hid hno
        clear hno
        by_cases hk9' : k = 9
        · subst hk9'
          go_wp2_with fail
          go_ret2
          rw [HNO.out]
          exact ⟨rfl, rfl⟩
        · have hk9i : ((k : Int) == 9) = false := by simp; omega
          go_wp2_with fail
          go_ret2
          rw [HNO.out]
          exact ⟨rfl, rfl⟩
      · have hno : ¬ (k = 9 ∧ 1 < c.toNat ∨ 0 < k ∧ c.toNat = 0) := by
          rw [HXC.out]
          rintro (h | h)
          · exact hf h
          · exact h0 h
        have hb := num_bounds k un x hk9 HUN.out (fun h => by have := hf; omega)
        obtain ⟨V, hV⟩ : ∃ V, V = un + x % 128 * 2 ^ (7 * k) := ⟨_, rfl⟩
        obtain ⟨P, hP⟩ : ∃ P, P = x % 128 * 2 ^ (7 * k) := ⟨_, rfl⟩
        rw [← hP] at hV
        rw [← hP, ← hV] at hb
        obtain ⟨hb1, hb2, hb3⟩ := hb
        have hVP : un + P < 18446744073709551616 := by rw [← hV]; exact hb2
        have fin : x < 128 → numGo 0 0 bs = some (V, bs.drop (k + 1)) := fun h => by
          rw [← HGO.out, HD.out, numGo_last _ _ _ _ hno (by rw [HXC.out]; exact h), HXC.out, ← hP, ← hV]
        have nxt : ¬ x < 128 → numGo (k + 1) V (bs.drop (k + 1)) = numGo 0 0 bs := fun h => by
          rw [← HGO.out, HD.out, numGo_more _ _ _ _ hno (by rw [HXC.out]; exact h), HXC.out, ← hP, ← hV]
        have hcnt : bs.length - (bs.drop (k + 1)).length = k + 1 := by rw [List.length_drop, HBL.out]; omega
        have HV := Lib.hid hV
        have HP := Lib.hid hP
        have HB1 := Lib.hid hb1
        have HB3 := Lib.hid hb3
        have HFIN := Lib.hid fin
        have HNXT := Lib.hid nxt
        have HCNT := Lib.hid hcnt
        have hV64 : V < 18446744073709551616 := hb2
        clear hno hb1 hb2 hb3 hV hP fin nxt hcnt
        have hcase : ((k : Int) == 9) = true ∧ ¬ (1 : Int) < (x : Int) ∧ (0 : Int) < (k : Int) ∧ ((x : Int) == 0) = false ∧ x < 128 ∨ ((k : Int) == 9) = false ∧ (0 : Int) < (k : Int) ∧ ((x : Int) == 0) = false ∧ k ≤ 8 ∨ ((k : Int) == 9) = false ∧ ¬ (0 : Int) < (k : Int) ∧ k ≤ 8 := by
          by_cases h9 : k = 9
          · exact .inl ⟨by simp; omega, by omega, by omega, by simp; omega, by omega⟩
          · by_cases hp : 0 < k
            · exact .inr (.inl ⟨by simp; omega, by omega, by simp; omega, by omega⟩)
            · exact .inr (.inr ⟨by simp; omega, by omega, by omega⟩)
        clear hf h0
        have hkx : k ≤ 8 ∨ x < 128 := by omega
        rcases hcase with ⟨q1, q2, q3, q4, _⟩ | ⟨q1, q2, q3, _⟩ | ⟨q1, q2, _⟩
        all_goals
          go_wp2_with fail
          go_loopw [6, 7] (fun p j wq => ∃ (pn m : Nat), m ≤ k ∧ p = .int .u64 (pn : Nat) ∧ j = .int .i64 m ∧ Hid (pn = x % 128 * 2 ^ (7 * m)) ∧ SameW w wq) (fun _ j _ => k - (intOf j).toNat)
          case atStart => exact ⟨x % 128, 0, by omega, by go_num, rfl, by show _ = _; simp, rfl⟩
          case round =>
            obtain ⟨pn, m, hm, rfl, rfl, HPN, hsame2⟩ := hrel
            have hsame2 : w = wr := hsame2
            subst hsame2
            by_cases hmk : m < k
            · have hpn : pn * 128 < 18446744073709551616 := by
                have h1 : x % 128 * 2 ^ (7 * (m + 1)) ≤ x % 128 * 2 ^ (7 * k) := Nat.mul_le_mul_left _ (Nat.pow_le_pow_right (by decide) (by omega))
                rw [← HP.out] at h1
                have h2 : pn * 128 = x % 128 * 2 ^ (7 * (m + 1)) := by rw [HPN.out, show 7 * (m + 1) = 7 * m + 7 by omega, Nat.pow_add, Nat.mul_assoc]
                have := HB1.out
                omega
              have hmki : (m : Int) < (k : Int) := by omega
              go_wp2_with fail
              go_roundw
              case rel => exact ⟨pn * 128, m + 1, by omega, by go_num, by go_num, by show _ = _; rw [HPN.out, show 7 * (m + 1) = 7 * m + 7 by omega, Nat.pow_add, Nat.mul_assoc], rfl⟩
              case measure => simp [intOf]; omega
            · obtain rfl : m = k := by omega
              obtain rfl : pn = P := by rw [HPN.out, HP.out]
              have hVe : (un : Int) + (pn : Int) = (V : Int) := by rw [HV.out]; omega
              by_cases hx128 : x < 128
              · have hx128' : (x : Int) < 128 := by omega
                by_cases hodd : V % 2 = 1
                · have hodd' : ((un : Int) + (pn : Int)) % 2 = 1 := by omega
                  have hres := numK_some (HFIN.out hx128) HCNT.out
                  rw [zag_odd hodd] at hres
                  have HRES := Lib.hid hres
                  clear hres
                  go_wp2_with fail
                  go_ret2
                  rw [HRES.out]
                  exact ⟨(ret_two_int (by omega) (by omega) : Ending.returned (.tuple #[.int .i64 (-((V : Int) / 2) - 1), .int .i64 ((m : Int) + 1)]) = _), rfl⟩
                · have hodd' : (((un : Int) + (pn : Int)) % 2 == 1) = false := by simp; omega
                  have hres := numK_some (HFIN.out hx128) HCNT.out
                  rw [zag_even hodd] at hres
                  have HRES := Lib.hid hres
                  clear hres
                  go_wp2_with fail
                  go_ret2
                  rw [HRES.out]
                  exact ⟨(ret_two_int (by omega) (by omega) : Ending.returned (.tuple #[.int .i64 ((V : Int) / 2), .int .i64 ((m : Int) + 1)]) = _), rfl⟩
              · have hx128' : ¬ (x : Int) < 128 := by omega
                go_wp2_with fail
                go_roundw
                case rel => exact ⟨V, m + 1, by omega, by omega, by rw [← hVe], by go_num, HB3.out (by omega), HNXT.out hx128, rfl⟩
                case measure => simp [intOf]; omega
    · have hke : k = len := by omega
      subst hke
      have hd : bs.drop k = [] := List.drop_of_length_le (by rw [HBL.out]; exact Nat.le_refl _)
      have hno := numK_none (bs := bs) (by rw [← HGO.out, hd]; rfl)
      have HNO := Lib.hid hno
      clear hno hd
      go_wp2_with fail
      go_ret2
      rw [HNO.out]
      exact ⟨rfl, rfl⟩
theorem numK_get {bs r : List UInt8} {n : Int} (h : getNum bs = some (n, r)) : numK bs = (n, bs.length - r.length) := by
  rw [getNum] at h
  cases hg : numGo 0 0 bs with
  | none => rw [hg] at h; cases h
  | some q =>
    obtain ⟨v, t⟩ := q
    rw [hg] at h
    simp only [Option.map_some, Option.some.injEq, Prod.mk.injEq] at h
    obtain ⟨rfl, rfl⟩ := h
    rw [numK, hg]
theorem numK_no {bs : List UInt8} (h : getNum bs = none) : numK bs = (0, 0) := by
  rw [getNum] at h
  cases hg : numGo 0 0 bs with
  | none => exact numK_none hg
  | some q => rw [hg] at h; cases h

end Go.Proofs.Ytpaommkjafdghaa
