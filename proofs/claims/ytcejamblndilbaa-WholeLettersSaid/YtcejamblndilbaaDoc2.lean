/- The document's One and Load of a configuration (out of the texts of pack and rlog). -/
import Derived.Test.YtcejamblndilbaaDoc1
import Derived.Test.YtcejamblndilbaaRr
import Derived.Test.YtcejamblndilbaaOf1
import Derived.Deep.RegionHeld3
import Derived.Deep.RegionLaw
import Derived.RegionDies
namespace Go.Proofs.Ytcejamblndilbaa
open Go.RowKit

theorem numBytes_pos (n : Int) : 1 ≤ (numBytes n).length := by
  rw [numBytes, lebF]
  split <;> simp
theorem Touch.own {S : List Nat} {w w' : World} {base : Nat} {ao : Option Addr} {n c : Nat} {bs : List UInt8} (h : Own8 w base ao n c bs) (ht : Touch S w w') (hS : ∀ k ∈ S, k < base) : Own8 w' base ao n c bs := by
  refine ⟨h.1, ?_⟩
  rcases h.2 with hv | ⟨g, cp, cur, hv, hbg, hg, r⟩
  · exact .inl hv
  · exact .inr ⟨g, cp, cur, hv, hbg, by rw [ht.block g (Array.getElem?_eq_some_iff.1 hg).1 (fun hi => by have := hS g hi; omega)]; exact hg, r⟩
theorem touch_six (w : World) (A i : Nat) (u v0 v1 v2 v3 v4 : Value) : Touch [A, A + 1] w ((((((w.setCell ⟨A + 1, i, none⟩ u).setCell ⟨A, 0, none⟩ v0).setCell ⟨A, 1, none⟩ v1).setCell ⟨A, 2, none⟩ v2).setCell ⟨A, 3, none⟩ v3).setCell ⟨A, 4, none⟩ v4) :=
  (((((Touch.set w _ _ _ (by simp)).trans (Touch.set _ _ _ _ (by simp))).trans (Touch.set _ _ _ _ (by simp))).trans (Touch.set _ _ _ _ (by simp))).trans (Touch.set _ _ _ _ (by simp))).trans (Touch.set _ _ _ _ (by simp))
theorem two_second (w : World) (cs cs' : Array Value) (t t' : TypeId) : ((w.alloc (.cells cs t)).alloc (.cells cs' t')).drew.heap[w.heap.size + 1]? = some (.cells cs' t' (0, 0)) := by
  have := heap_alloc_new (w.alloc (.cells cs t)) (.cells cs' t')
  rw [World.size_alloc] at this
  exact this
def numK (bs : List UInt8) : Int × Nat := match numGo 0 0 bs with
  | none => (0, 0)
  | some (v, r) => (zag v, bs.length - r.length)
theorem numK_none {bs : List UInt8} (h : numGo 0 0 bs = none) : numK bs = (0, 0) := by rw [numK, h]
theorem numK_some {bs r : List UInt8} {v k : Nat} (h : numGo 0 0 bs = some (v, r)) (hr : bs.length - r.length = k) : numK bs = (zag v, k) := by rw [numK, h, ← hr]
theorem zag_odd {v : Nat} (h : v % 2 = 1) : zag v = -((v / 2 : Nat) : Int) - 1 := by rw [zag, if_pos h]
theorem zag_even {v : Nat} (h : ¬ v % 2 = 1) : zag v = ((v / 2 : Nat) : Int) := by rw [zag, if_neg h]
theorem ret_two_int {a b c d : Int} (h1 : a = c) (h2 : b = d) : Ending.returned (.tuple #[.int .i64 a, .int .i64 b]) = .returned (.tuple #[.int .i64 c, .int .i64 d]) := by rw [h1, h2]
theorem num_bounds (k un x : Nat) (hk : k ≤ 9) (hun : un < 2 ^ (7 * k)) (hx : k = 9 → x ≤ 1) : x % 128 * 2 ^ (7 * k) < 2 ^ 64 ∧ un + x % 128 * 2 ^ (7 * k) < 2 ^ 64 ∧ (k ≤ 8 → un + x % 128 * 2 ^ (7 * k) < 2 ^ (7 * (k + 1))) := by
  have hlt : x % 128 * 2 ^ (7 * k) + 2 ^ (7 * k) ≤ 128 * 2 ^ (7 * k) := by
    have := Nat.mul_le_mul_right (2 ^ (7 * k)) (show x % 128 + 1 ≤ 128 by omega)
    rw [Nat.add_mul, Nat.one_mul] at this
    exact this
  have hpp : 128 * 2 ^ (7 * k) = 2 ^ (7 * (k + 1)) := by rw [show 7 * (k + 1) = 7 * k + 7 by omega, Nat.pow_add, Nat.mul_comm]
  by_cases h9 : k = 9
  · subst h9
    have h1 : x % 128 ≤ 1 := by have := hx rfl; omega
    have := Nat.mul_le_mul_right (2 ^ 63) h1
    simp only [Nat.reduceMul] at hun ⊢
    refine ⟨by omega, by omega, fun h => by omega⟩
  · have : 2 ^ (7 * (k + 1)) ≤ 2 ^ 63 := Nat.pow_le_pow_right (by decide) (by omega)
    refine ⟨by omega, by omega, fun _ => by omega⟩
set_option maxRecDepth 100000 in
set_option maxHeartbeats 3200000 in
theorem refGetNum_any (a : Option Addr) (len cap : Nat) (bs : List UInt8) (w : World) (hr : Row8 w a len bs) (hl : len ≤ maxLen) :
    Calls Try.prog 89 #[.slice a len cap] w (RetTwo w (.int .i64 (numK bs).1) (.int .i64 ((numK bs).2 : Nat))) := by
  simp only [maxLen] at hl
  have hbl := hr.1
  have HR := Lib.hid hr
  have HBL := Lib.hid hbl
  clear hr hbl
  go_enter Try.func89, Try.ntmps89
  go_wp2_with fail
  go_loopw [4, 5] (fun u i wr => ∃ (un k : Nat), k ≤ 9 ∧ k ≤ len ∧ u = .int .u64 (un : Nat) ∧ i = .int .i64 k ∧ Hid (un < 2 ^ (7 * k)) ∧ Hid (numGo k un (bs.drop k) = numGo 0 0 bs) ∧ SameW w wr) (fun _ i _ => len - (intOf i).toNat)
  case atStart => exact ⟨0, 0, by omega, by omega, rfl, rfl, by show _ < _; decide, by show _ = _; rw [List.drop_zero], rfl⟩
  case round =>
    obtain ⟨un, k, hk9, hk, rfl, rfl, HUN, HGO, hsame⟩ := hrel
    have hsame : w = wr := hsame
    subst hsame
    by_cases hlt : k < len
    · obtain ⟨b, off, rfl, x, hx, hxb, hcell⟩ := HR.out.at k hlt
      have hd : bs.drop k = bs.getD k 0 :: bs.drop (k + 1) := by
        have hl' : k < bs.length := by rw [HBL.out]; exact hlt
        rw [List.getD_eq_getElem?_getD, List.getElem?_eq_getElem hl']
        exact List.drop_eq_getElem_cons hl'
      obtain ⟨c, hc⟩ : ∃ c, c = bs.getD k 0 := ⟨_, rfl⟩
      rw [← hc] at hd
      have hxc : c.toNat = x := by rw [hc]; exact hxb.out
      have HD := Lib.hid hd
      have HXC := Lib.hid hxc
      clear hd hxc hc hxb
      have hkl : (k : Int) < (len : Int) := by omega
      have hk10 : (k : Int) < 10 := by omega
      by_cases hf : k = 9 ∧ 1 < x
      · obtain ⟨rfl, hf2⟩ := hf
        have hf2' : (1 : Int) < (x : Int) := by omega
        have hno := numK_none (bs := bs) (by rw [← HGO.out, HD.out, numGo_fail _ _ _ _ (.inl ⟨rfl, by rw [HXC.out]; exact hf2⟩)])
        have HNO := Lib.hid hno
        clear hno
        go_wp2_with fail
        go_ret2
        rw [HNO.out]
        exact ⟨rfl, rfl⟩
      by_cases h0 : 0 < k ∧ x = 0
      · obtain ⟨h1, rfl⟩ := h0
        have h1' : (0 : Int) < (k : Int) := by omega
        have hno := numK_none (bs := bs) (by rw [← HGO.out, HD.out, numGo_fail _ _ _ _ (.inr ⟨h1, HXC.out⟩)])
        have HNO := Lib.hid hno
        clear hno
        by_cases hk9' : k = 9
        · subst hk9'
          go_wp2_with fail
          go_ret2
          rw [HNO.out]
          exact ⟨rfl, rfl⟩
        · have hk9i : ((k : Int) == 9) = false := by simp; omega
          go_wp2_with fail
          go_ret2
          rw [HNO.out]
          exact ⟨rfl, rfl⟩
      · have hno : ¬ (k = 9 ∧ 1 < c.toNat ∨ 0 < k ∧ c.toNat = 0) := by
          rw [HXC.out]
          rintro (h | h)
          · exact hf h
          · exact h0 h
        have hb := num_bounds k un x hk9 HUN.out (fun h => by have := hf; omega)
        obtain ⟨V, hV⟩ : ∃ V, V = un + x % 128 * 2 ^ (7 * k) := ⟨_, rfl⟩
        obtain ⟨P, hP⟩ : ∃ P, P = x % 128 * 2 ^ (7 * k) := ⟨_, rfl⟩
        rw [← hP] at hV
        rw [← hP, ← hV] at hb
        obtain ⟨hb1, hb2, hb3⟩ := hb
        have hVP : un + P < 18446744073709551616 := by rw [← hV]; exact hb2
        have fin : x < 128 → numGo 0 0 bs = some (V, bs.drop (k + 1)) := fun h => by
          rw [← HGO.out, HD.out, numGo_last _ _ _ _ hno (by rw [HXC.out]; exact h), HXC.out, ← hP, ← hV]
        have nxt : ¬ x < 128 → numGo (k + 1) V (bs.drop (k + 1)) = numGo 0 0 bs := fun h => by
          rw [← HGO.out, HD.out, numGo_more _ _ _ _ hno (by rw [HXC.out]; exact h), HXC.out, ← hP, ← hV]
        have hcnt : bs.length - (bs.drop (k + 1)).length = k + 1 := by rw [List.length_drop, HBL.out]; omega
        have HV := Lib.hid hV
        have HP := Lib.hid hP
        have HB1 := Lib.hid hb1
        have HB3 := Lib.hid hb3
        have HFIN := Lib.hid fin
        have HNXT := Lib.hid nxt
        have HCNT := Lib.hid hcnt
        have hV64 : V < 18446744073709551616 := hb2
        clear hno hb1 hb2 hb3 hV hP fin nxt hcnt
        have hcase : ((k : Int) == 9) = true ∧ ¬ (1 : Int) < (x : Int) ∧ (0 : Int) < (k : Int) ∧ ((x : Int) == 0) = false ∧ x < 128 ∨ ((k : Int) == 9) = false ∧ (0 : Int) < (k : Int) ∧ ((x : Int) == 0) = false ∧ k ≤ 8 ∨ ((k : Int) == 9) = false ∧ ¬ (0 : Int) < (k : Int) ∧ k ≤ 8 := by
          by_cases h9 : k = 9
          · exact .inl ⟨by simp; omega, by omega, by omega, by simp; omega, by omega⟩
          · by_cases hp : 0 < k
            · exact .inr (.inl ⟨by simp; omega, by omega, by simp; omega, by omega⟩)
            · exact .inr (.inr ⟨by simp; omega, by omega, by omega⟩)
        clear hf h0
        have hkx : k ≤ 8 ∨ x < 128 := by omega
        rcases hcase with ⟨q1, q2, q3, q4, _⟩ | ⟨q1, q2, q3, _⟩ | ⟨q1, q2, _⟩
        all_goals
          go_wp2_with fail
          go_loopw [6, 7] (fun p j wq => ∃ (pn m : Nat), m ≤ k ∧ p = .int .u64 (pn : Nat) ∧ j = .int .i64 m ∧ Hid (pn = x % 128 * 2 ^ (7 * m)) ∧ SameW w wq) (fun _ j _ => k - (intOf j).toNat)
          case atStart => exact ⟨x % 128, 0, by omega, by go_num, rfl, by show _ = _; simp, rfl⟩
          case round =>
            obtain ⟨pn, m, hm, rfl, rfl, HPN, hsame2⟩ := hrel
            have hsame2 : w = wr := hsame2
            subst hsame2
            by_cases hmk : m < k
            · have hpn : pn * 128 < 18446744073709551616 := by
                have h1 : x % 128 * 2 ^ (7 * (m + 1)) ≤ x % 128 * 2 ^ (7 * k) := Nat.mul_le_mul_left _ (Nat.pow_le_pow_right (by decide) (by omega))
                rw [← HP.out] at h1
                have h2 : pn * 128 = x % 128 * 2 ^ (7 * (m + 1)) := by rw [HPN.out, show 7 * (m + 1) = 7 * m + 7 by omega, Nat.pow_add, Nat.mul_assoc]
                have := HB1.out
                omega
              have hmki : (m : Int) < (k : Int) := by omega
              go_wp2_with fail
              go_roundw
              case rel => exact ⟨pn * 128, m + 1, by omega, by go_num, by go_num, by show _ = _; rw [HPN.out, show 7 * (m + 1) = 7 * m + 7 by omega, Nat.pow_add, Nat.mul_assoc], rfl⟩
              case measure => simp [intOf]; omega
            · obtain rfl : m = k := by omega
              obtain rfl : pn = P := by rw [HPN.out, HP.out]
              have hVe : (un : Int) + (pn : Int) = (V : Int) := by rw [HV.out]; omega
              by_cases hx128 : x < 128
              · have hx128' : (x : Int) < 128 := by omega
                by_cases hodd : V % 2 = 1
                · have hodd' : ((un : Int) + (pn : Int)) % 2 = 1 := by omega
                  have hres := numK_some (HFIN.out hx128) HCNT.out
                  rw [zag_odd hodd] at hres
                  have HRES := Lib.hid hres
                  clear hres
                  go_wp2_with fail
                  go_ret2
                  rw [HRES.out]
                  exact ⟨(ret_two_int (by omega) (by omega) : Ending.returned (.tuple #[.int .i64 (-((V : Int) / 2) - 1), .int .i64 ((m : Int) + 1)]) = _), rfl⟩
                · have hodd' : (((un : Int) + (pn : Int)) % 2 == 1) = false := by simp; omega
                  have hres := numK_some (HFIN.out hx128) HCNT.out
                  rw [zag_even hodd] at hres
                  have HRES := Lib.hid hres
                  clear hres
                  go_wp2_with fail
                  go_ret2
                  rw [HRES.out]
                  exact ⟨(ret_two_int (by omega) (by omega) : Ending.returned (.tuple #[.int .i64 ((V : Int) / 2), .int .i64 ((m : Int) + 1)]) = _), rfl⟩
              · have hx128' : ¬ (x : Int) < 128 := by omega
                go_wp2_with fail
                go_roundw
                case rel => exact ⟨V, m + 1, by omega, by omega, by rw [← hVe], by go_num, HB3.out (by omega), HNXT.out hx128, rfl⟩
                case measure => simp [intOf]; omega
    · have hke : k = len := by omega
      subst hke
      have hd : bs.drop k = [] := List.drop_of_length_le (by rw [HBL.out]; exact Nat.le_refl _)
      have hno := numK_none (bs := bs) (by rw [← HGO.out, hd]; rfl)
      have HNO := Lib.hid hno
      clear hno hd
      go_wp2_with fail
      go_ret2
      rw [HNO.out]
      exact ⟨rfl, rfl⟩
theorem load_five3 {w : World} {B : Nat} {c0 c1 c2 c3 c4 : Value} (h : w.heap[B]? = some (.cells #[c0, c1, c2, c3, c4] 94 (0, 0))) : (loadVar 94 ⟨B, 0, none⟩).run Try.prog w = .ok (.agg #[c0, c1, c2, c3, c4]) w := by
  refine run_loadVar_mid w B 0 _ [c0, c1, c2, c3, c4] _ (fun j v hv => ?_) Try.underlying94 rfl (by kernel_rfl)
  simp only [World.cell?, h, Nat.zero_add]
  rw [← hv]
  simp
theorem one_first {w : World} {c0 c1 c2 c3 c4 : Value} {o : Obj} : ((w.alloc (.cells #[c0, c1, c2, c3, c4] 94)).alloc o).heap[w.heap.size]? = some (.cells #[c0, c1, c2, c3, c4] 94 (0, 0)) :=
  (heap_alloc_old _ _ (by rw [World.size_alloc]; omega)).trans (heap_alloc_new w _)
theorem one_below (w : World) (o o' : Obj) : Below w.heap.size w ((w.alloc o).alloc o') := ((Below.refl _ _).alloc (Nat.le_refl _) _).alloc (by rw [World.size_alloc]; omega) _
/-- what One comes to: five cells and a count -/
def OneAs (w : World) (p : Pv) (k : Nat) (e : Ending) (w' : World) : Prop := ∃ a n c, e = .returned (.tuple #[.agg #[.int .i64 p.kind, .int .i64 p.n, .float .f64 p.x, .slice a n c, .bool p.on], .int .i64 (k : Nat)]) ∧ Own8 w' w.heap.size a n c p.bs ∧ Below w.heap.size w w'
set_option maxRecDepth 100000 in
set_option maxHeartbeats 3200000 in
theorem one_1 (a : Option Addr) (len cap : Nat) (bs : List UInt8) (w : World) (hr : Row8 w a len bs) (hl : len ≤ maxLen) :
    Calls Try.prog 88 #[.slice a len cap, .int .i64 1] w (OneAs w ⟨1, (numK bs).1, 0, [], false⟩ (numK bs).2) := by
  have hstf := store_float
  have hget := fun w' (h : Row8 w' a len bs) => refGetNum_any a len cap bs w' h hl
  have HG := Lib.hid hget
  have HR := Lib.hid hr
  clear hget hr
  go_enter Try.func88, Try.ntmps88
  go_wp2_with fail
  refine (HG.out _ ((HR.out.alloc _).alloc _)).mono ?_
  rintro e w1 ⟨rfl, rfl⟩
  go_wp2_with fail
  exact bodyPost_ret (results_cell_tmp Try.results88 rfl (load_five3 one_first)) rfl ⟨none, 0, 0, rfl, Own8.nil _ _, one_below _ _ _⟩
set_option maxRecDepth 100000 in
set_option maxHeartbeats 3200000 in
theorem one_4 (a : Option Addr) (len cap : Nat) (bs : List UInt8) (w : World) (hr : Row8 w a len bs) :
    Calls Try.prog 88 #[.slice a len cap, .int .i64 4] w (match getFlag bs with
      | none => OneAs w ⟨4, 0, 0, [], false⟩ 0
      | some (b, _) => OneAs w ⟨4, 0, 0, [], b⟩ 1) := by
  have hstf := store_float
  cases bs with
  | nil =>
    have hl : len = 0 := hr.1.symm
    subst hl
    simp only [getFlag]
    clear hr
    go_enter Try.func88, Try.ntmps88
    go_wp2_with fail
    exact bodyPost_ret (results_cell_tmp Try.results88 rfl (load_five3 one_first)) rfl ⟨none, 0, 0, rfl, Own8.nil _ _, one_below _ _ _⟩
  | cons c r =>
    have hl : 0 < len := by rw [← hr.1]; simp
    obtain ⟨b, off, rfl, x, hx, hxb, hcell⟩ := hr.at 0 hl
    rw [Nat.add_zero] at hcell
    have hxc : c.toNat = x := hxb.out
    have hl0 : ((len : Int) == 0) = false := by simp; omega
    have hl1 : (0 : Int) < (len : Int) := by omega
    have hcs := World.block_lt_of_cell? w _ hcell
    clear hxb hr
    by_cases h1 : x ≤ 1
    · have h1' : ¬ (1 : Int) < (x : Int) := by omega
      have e : getFlag (c :: r) = some (decide (x = 1), r) := by rw [getFlag, hxc, if_pos h1]
      rw [e]
      simp only
      clear e hxc
      go_enter Try.func88, Try.ntmps88
      go_wp2_with fail
      refine bodyPost_ret (results_cell_tmp Try.results88 rfl (load_five3 one_first)) rfl ⟨none, 0, 0, ?_, Own8.nil _ _, one_below _ _ _⟩
      rw [show ((x : Int) == 1) = decide (x = 1) from nat_beq x 1]
      rfl
    · have h1' : (1 : Int) < (x : Int) := by omega
      have e : getFlag (c :: r) = none := by rw [getFlag, hxc, if_neg h1]
      rw [e]
      simp only
      clear e hxc
      go_enter Try.func88, Try.ntmps88
      go_wp2_with fail
      exact bodyPost_ret (results_cell_tmp Try.results88 rfl (load_five3 one_first)) rfl ⟨none, 0, 0, rfl, Own8.nil _ _, one_below _ _ _⟩
theorem numK_get {bs r : List UInt8} {n : Int} (h : getNum bs = some (n, r)) : numK bs = (n, bs.length - r.length) := by
  rw [getNum] at h
  cases hg : numGo 0 0 bs with
  | none => rw [hg] at h; cases h
  | some q =>
    obtain ⟨v, t⟩ := q
    rw [hg] at h
    simp only [Option.map_some, Option.some.injEq, Prod.mk.injEq] at h
    obtain ⟨rfl, rfl⟩ := h
    rw [numK, hg]
theorem numK_no {bs : List UInt8} (h : getNum bs = none) : numK bs = (0, 0) := by
  rw [getNum] at h
  cases hg : numGo 0 0 bs with
  | none => exact numK_none hg
  | some q => rw [hg] at h; cases h
theorem row_none {w : World} {a : Option Addr} {m : Nat} {t : List UInt8} (h : m = 0) : Row8 w a m (t.take m) := by
  subst h
  exact Row8.nil _ _
def One3 (w : World) (len : Nat) (o : Option (List UInt8 × List UInt8)) (e : Ending) (w' : World) : Prop := match o with
  | none => OneAs w ⟨3, 0, 0, [], false⟩ 0 e w'
  | some (ys, r) => OneAs w ⟨3, 0, 0, ys, false⟩ (len - r.length) e w'
theorem One3.no {w : World} {len : Nat} {o : Option (List UInt8 × List UInt8)} {e : Ending} {w' : World} (ho : o = none) (h : OneAs w ⟨3, 0, 0, [], false⟩ 0 e w') : One3 w len o e w' := by subst ho; exact h
theorem One3.yes {w : World} {len k : Nat} {o : Option (List UInt8 × List UInt8)} {ys r : List UInt8} {e : Ending} {w' : World} (ho : o = some (ys, r)) (hk : len - r.length = k) (h : OneAs w ⟨3, 0, 0, ys, false⟩ k e w') : One3 w len o e w' := by subst ho hk; exact h
set_option maxRecDepth 100000 in
set_option maxHeartbeats 3200000 in
theorem one_3 (a : Option Addr) (len cap : Nat) (bs : List UInt8) (w : World) (hr : Row8 w a len bs) (hlc : len ≤ cap) (hcm : cap ≤ maxLen) :
    Calls Try.prog 88 #[.slice a len cap, .int .i64 3] w (One3 w len (getBytes bs)) := by
  have hstf := store_float
  have hbl := hr.1
  have hl63 : cap ≤ 9223372036854775807 := by simpa [maxLen] using hcm
  have hget := fun w' (h : Row8 w' a len bs) => refGetNum_any a len cap bs w' h (by omega)
  have HR := Lib.hid hr
  cases hg : getNum bs with
  | none =>
    have e : getBytes bs = none := by rw [getBytes, getCount, hg]
    rw [numK_no hg] at hget
    have HG := Lib.hid hget
    have HE := Lib.hid e
    clear hget hr hbl e hg
    go_enter Try.func88, Try.ntmps88
    go_wp2_with fail
    refine (HG.out _ ((HR.out.alloc _).alloc _)).mono ?_
    rintro e w1 ⟨rfl, rfl⟩
    go_wp2_with fail
    exact bodyPost_ret (results_cell_tmp Try.results88 rfl (load_five3 one_first)) rfl (One3.no HE.out ⟨none, 0, 0, rfl, Own8.nil _ _, one_below _ _ _⟩)
  | some q =>
    obtain ⟨n, t⟩ := q
    obtain ⟨h1, hn⟩ := num_getNum hg
    have hpos := numBytes_pos n
    have hp10 := numBytes_len n
    obtain ⟨K, hK⟩ : ∃ K, K = (numBytes n).length := ⟨_, rfl⟩
    have hlen : len = K + t.length := by rw [← hbl, h1, List.length_append, hK]
    rw [numK_get hg, hbl, show len - t.length = K from by omega] at hget
    have ht : t = bs.drop K := by rw [hK, h1, List.drop_left]
    rw [← hK] at hpos hp10
    have hk0 : ((K : Int) == 0) = false := by simp; omega
    have hrt : ∀ w', Row8 w' a len bs → Row8 w' (Option.map (fun x => x.add K) a) (len - K) t := fun w' h => by rw [ht]; exact h.drop K (by omega)
    have HRT := Lib.hid hrt
    have HG := Lib.hid hget
    by_cases hbad : n < 0 ∨ 4096 < n
    · have e : getBytes bs = none := by
        have : getCount 4096 bs = none := by rw [getCount, hg]; simp only; rw [if_pos hbad]
        rw [getBytes, this]
      have HE := Lib.hid e
      clear hget hr hbl e hg h1 hK ht hlen hrt
      have hcs : n < 0 ∨ (¬ n < 0 ∧ 4096 < n) := by omega
      clear hbad
      rcases hcs with q1 | ⟨q1, q2⟩
      all_goals
        go_enter Try.func88, Try.ntmps88
        go_wp2_with fail
        refine (HG.out _ ((HR.out.alloc _).alloc _)).mono ?_
        rintro e w1 ⟨rfl, rfl⟩
        go_wp2_with fail
        exact bodyPost_ret (results_cell_tmp Try.results88 rfl (load_five3 one_first)) rfl (One3.no HE.out ⟨none, 0, 0, rfl, Own8.nil _ _, one_below _ _ _⟩)
    · obtain ⟨m, rfl⟩ : ∃ m : Nat, n = (m : Int) := ⟨n.toNat, by omega⟩
      have q1 : ¬ (m : Int) < 0 := by omega
      have q2 : ¬ (4096 : Int) < (m : Int) := by omega
      have hc : getCount 4096 bs = some ((m : Int), t) := by rw [getCount, hg]; simp only; rw [if_neg hbad]
      have e : getBytes bs = if m ≤ t.length then some (t.take m, t.drop m) else none := by rw [getBytes, hc]; rfl
      by_cases hm : m ≤ t.length
      · rw [if_pos hm] at e
        have q3 : ¬ (len : Int) - (K : Int) < (m : Int) := by omega
        have q4 : (0 : Int) ≤ (K : Int) := by omega
        have q5 : (K : Int) ≤ (K : Int) + (m : Int) := by omega
        have q6 : (K : Int) + (m : Int) ≤ (cap : Int) := by omega
        have hcnt : len - (t.drop m).length = K + m := by rw [List.length_drop]; omega
        have HE := Lib.hid e
        have HCNT := Lib.hid hcnt
        have hrow : ∀ w', Row8 w' a len bs → Row8 w' (Option.map (fun x => x.add K) a) m (t.take m) := fun w' h => (HRT.out w' h).take m (by omega)
        have HROW := Lib.hid hrow
        clear hget hr hbl e hg h1 hK ht hrt hbad hc hcnt hrow hlen
        go_enter Try.func88, Try.ntmps88
        go_wp2_with fail
        refine (HG.out _ ((HR.out.alloc _).alloc _)).mono ?_
        rintro e w1 ⟨rfl, rfl⟩
        go_wp2_with fail
        all_goals
          have hXs : ((w.alloc (.cells #[.int .i64 0, .int .i64 0, .float .f64 0, .slice none 0 0, .bool false] 94)).alloc (.cells #[.int .i64 3, .int .i64 0, .float .f64 0, .slice none 0 0, .bool false] 94)).heap.size = w.heap.size + 2 := by rw [World.size_alloc, World.size_alloc]
          refine (join_any (w.heap.size + 2) none 0 0 [] _ m _ (t.take m) _ (Own8.nil _ _) (by first | exact HROW.out _ ((HR.out.alloc _).alloc _) | exact row_none (by omega)) (fun _ _ _ _ h => by cases h) (by rw [hXs]; exact Nat.le_refl _) (by omega) m (by omega)).mono ?_
          rintro e w2 ⟨aq, cq, rfl, hown, hg2, _⟩
          rw [List.nil_append] at hown
          have hA := (hg2.block w.heap.size (by rw [hXs]; omega) (fun e => by cases e)).trans one_first
          have hB := (hg2.block (w.heap.size + 1) (by rw [hXs]; omega) (fun e => by cases e)).trans (two_second w #[.int .i64 0, .int .i64 0, .float .f64 0, .slice none 0 0, .bool false] #[.int .i64 3, .int .i64 0, .float .f64 0, .slice none 0 0, .bool false] 94 94)
          have hb2 : Below w.heap.size w w2 := (one_below w _ _).grown hg2 (by rw [hXs]; omega) (fun g hg => by cases hg)
          have hz2 := hg2.size
          rw [hXs] at hz2
          obtain ⟨⟨a0, a1, a2, a3, a4⟩, f0, f1, f2, f3, f4⟩ := five_cells hA
          obtain ⟨⟨b0, b1, b2, b3, b4⟩, g0, g1, g2, g3, g4⟩ := five_cells hB
          have HA := Lib.hid hA
          have HO := Lib.hid hown
          have HB2 := Lib.hid hb2
          clear hA hB hown hb2 hg2 hXs
          go_wp2_with fail
          have hF := set_block (i := 4) (set_block (i := 3) (set_block (i := 2) (set_block (i := 1) (set_block (i := 0) ((Below.heap_setCell w2 ⟨w.heap.size + 1, 3, none⟩ (.slice aq m cq) w.heap.size (by simp)).trans HA.out) (.int .i64 3)) (.int .i64 0)) (.float .f64 0)) (.slice aq m cq)) (.bool false)
          refine bodyPost_ret (results_cell_tmp Try.results88 rfl (load_five3 (c0 := .int .i64 3) (c1 := .int .i64 0) (c2 := .float .f64 0) (c3 := .slice aq m cq) (c4 := .bool false) hF)) rfl (One3.yes HE.out HCNT.out ⟨aq, m, cq, rfl, (Touch.own HO.out (touch_six _ _ _ _ _ _ _ _ _) (fun k hk => by simp at hk; omega)).more (by omega), Touch.below (touch_six _ _ _ _ _ _ _ _ _) HB2.out (by omega) (fun k hk => by simp at hk; omega)⟩)
      · rw [if_neg hm] at e
        have q3 : (len : Int) - (K : Int) < (m : Int) := by omega
        have HE := Lib.hid e
        clear hget hr hbl e hg h1 hK ht hrt hbad hc hlen
        go_enter Try.func88, Try.ntmps88
        go_wp2_with fail
        refine (HG.out _ ((HR.out.alloc _).alloc _)).mono ?_
        rintro e w1 ⟨rfl, rfl⟩
        go_wp2_with fail
        exact bodyPost_ret (results_cell_tmp Try.results88 rfl (load_five3 one_first)) rfl (One3.no HE.out ⟨none, 0, 0, rfl, Own8.nil _ _, one_below _ _ _⟩)
/-- these values, the document's, in memory of the call's own -/
structure OwnR (w : World) (base : Nat) (vs : List Vl) (ao : Option Addr) (n cap : Nat) : Prop where
  len : vs.length = n
  row : w.ownsRow base 94 5 (.slice ao n cap) n (vs.flatMap Vl.cells)
  own : ∀ v ∈ vs, Own8 w base v.s.a v.s.len v.s.cap v.s.bs
theorem OwnR.nil (w : World) (base : Nat) : OwnR w base [] none 0 0 := ⟨rfl, World.ownsRow_nil w base _ 5, fun v h => by cases h⟩
theorem OwnR.keep {w w' : World} {base : Nat} {vs : List Vl} {ao : Option Addr} {n cap : Nat} (h : OwnR w base vs ao n cap) (hk : ∀ g, base ≤ g → g < w.heap.size → w'.heap[g]? = w.heap[g]?) : OwnR w' base vs ao n cap :=
  ⟨h.len, own_keep h.row fun g hg hl => hk g (h.row.lt g hg).1 hl, fun v hv => own_keep (h.own v hv) fun g hg hl => hk g ((h.own v hv).lt g hg).1 hl⟩
theorem OwnR.snoc {w w' : World} {base : Nat} {vs : List Vl} {ao ao' : Option Addr} {n cap cap' : Nat} {v : Vl} (h : OwnR w base vs ao n cap) (hv : Own8 w base v.s.a v.s.len v.s.cap v.s.bs)
    (hrow : w'.ownsRow base 94 5 (.slice ao' (n + 1) cap') (n + 1) (vs.flatMap Vl.cells ++ v.cells)) (hg : w.grownBy w' (Value.ownBlock (.slice ao n cap))) : OwnR w' base (vs ++ [v]) ao' (n + 1) cap' := by
  have k : ∀ u : Vl, Own8 w base u.s.a u.s.len u.s.cap u.s.bs → Own8 w' base u.s.a u.s.len u.s.cap u.s.bs := fun u hu => own_keep hu fun g hb hl => hg.block g hl fun e => own_apart hu h.row (by decide) g hb e.symm
  refine ⟨by rw [List.length_append, h.len]; rfl, ?_, fun u hu => ?_⟩
  · rw [List.flatMap_append]
    simpa using hrow
  · rcases List.mem_append.1 hu with hu | hu
    · exact k u (h.own u hu)
    · rw [List.mem_singleton] at hu
      subst hu
      exact k u hv
theorem row_if {w : World} {ab : Option Addr} {nb cb cnt : Nat} {r : List UInt8} (h : Row8 w (Option.map (fun x => x.add cnt) ab) (nb - cnt) r) (hle : nb ≤ cb) : Row8 w (if cb = cnt then ab else Option.map (fun x => x.add cnt) ab) (nb - cnt) r := by
  split
  · have h0 : nb - cnt = 0 := by omega
    have h1 := h.1
    rw [h0] at h1 ⊢
    rw [List.eq_nil_of_length_eq_zero h1]
    exact Row8.nil _ _
  · exact h
theorem info_refval : (Try.prog.info? 94).map (fun i => (i.zero, i.size, i.bytes)) = some (some (.agg #[.int .i64 0, .int .i64 0, .float .f64 0, .slice none 0 0, .bool false]), 5, 56) := by kernel_rfl
/-- 'out = append(out, x)': out the call's own slice of the document's values. -/
theorem wpList_appendRef {w : World} {ops : Array Oper} {rest : List Oper} {o : Oper} {a : Act} {Q : Exit → Act → World → Prop} (hgd : o.guard = none) (s x : Operand)
    (ho : o.op = .call { callee := .builtin .append, args := #[s, x], argTypes := #[91, 91] })
    (base : Nat) (ao : Option Addr) (n cap : Nat) (vs : List Value) (hs : a.eval s = .slice ao n cap) (hown : w.ownsRow base 94 5 (.slice ao n cap) n vs)
    (ax : Option Addr) (m c : Nat) (xs : List Value) (hx : a.eval x = .slice ax m c) (hrow : RowN w ax 5 m xs) (hnil : ax = none → c = 0) (h1 : ∀ u ∈ xs, u.oneCell' = true) (hbig : n + m ≤ 1000000000000) (hbase : base ≤ w.heap.size) (N : Nat) (hN : n + m = N)
    (h : ∀ ao' cap' w', w'.ownsRow base 94 5 (.slice ao' N cap') N (vs ++ xs) → w.grownBy w' (Value.ownBlock (.slice ao n cap)) →
      (Value.ownBlock (.slice ao' N cap') = Value.ownBlock (.slice ao n cap) ∨ Value.ownBlock (.slice ao' N cap') = some w.heap.size) → wpList Try.prog ops Q rest (a.put o.dst (.slice ao' N cap')) w') : wpList Try.prog ops Q (o :: rest) a w := by
  obtain ⟨i0, hi, hz0, hz1, hz2⟩ := info_parts info_refval
  exact wpList_append_row hgd s x _ ho base 94 i0 _ 5 56 Try.underlying91 hi hz0 hz1 hz2 rfl (by decide) ao n cap vs hs hown ax m c xs hx hrow.1 hrow.news hnil h1 (by simp only [maxLen]; omega) (by omega) hbase N hN h
theorem numGo_suf : ∀ (bs : List UInt8) (i u v : Nat) (r : List UInt8), numGo i u bs = some (v, r) → ∃ k, 1 ≤ k ∧ k ≤ bs.length ∧ r = bs.drop k
  | [], i, u, v, r, h => by simp [numGo] at h
  | c :: t, i, u, v, r, h => by
    rw [numGo] at h
    split at h
    · cases h
    · split at h
      · injection h with h
        injection h with _ h
        exact ⟨1, by omega, by simp, h.symm⟩
      · obtain ⟨k, h1, h2, h3⟩ := numGo_suf t _ _ v r h
        exact ⟨k + 1, by omega, by simp; omega, by rw [List.drop_succ_cons]; exact h3⟩
theorem getCount_suf {most : Int} {bs r : List UInt8} {v : Int} (h : getCount most bs = some (v, r)) : numK bs = (v, bs.length - r.length) ∧ ∃ k, 1 ≤ k ∧ k ≤ bs.length ∧ r = bs.drop k := by
  unfold getCount at h
  cases hg : getNum bs with
  | none => rw [hg] at h; cases h
  | some p =>
    obtain ⟨n, r'⟩ := p
    rw [hg] at h
    simp only at h
    split at h
    · cases h
    · injection h with h
      injection h with h1 h2
      subst h1 h2
      refine ⟨numK_get hg, ?_⟩
      unfold getNum at hg
      cases hq : numGo 0 0 bs with
      | none => rw [hq] at hg; cases hg
      | some q =>
        obtain ⟨v, r''⟩ := q
        rw [hq] at hg
        simp only [Option.map_some, Option.some.injEq, Prod.mk.injEq] at hg
        obtain ⟨_, rfl⟩ := hg
        exact numGo_suf bs 0 0 v r'' hq
theorem getCount_none {most : Int} {bs : List UInt8} (h : getCount most bs = none) : (numK bs).2 = 0 ∨ ((numK bs).1 < 0 ∨ most < (numK bs).1) := by
  unfold getCount at h
  cases hg : getNum bs with
  | none => rw [numK_no hg]; exact .inl rfl
  | some p =>
    obtain ⟨n, r'⟩ := p
    rw [hg] at h
    simp only at h
    rw [numK_get hg]
    split at h
    · rename_i hc
      exact .inr hc
    · cases h
/-- all bytes as numbers from 0 to 7 -/
def readAll : Nat → List UInt8 → Option (List Int)
  | _, [] => some []
  | 0, _ :: _ => none
  | n + 1, c :: t => match getCount 7 (c :: t) with
    | none => none
    | some (v, r) => (readAll n r).map (v :: ·)
theorem readAll_more : ∀ (n : Nat) (bs : List UInt8) (m : Nat), bs.length ≤ n → n ≤ m → readAll m bs = readAll n bs
  | 0, bs, m, hb, _ => by
    have : bs = [] := List.eq_nil_of_length_eq_zero (by omega)
    subst this
    cases m <;> rfl
  | n + 1, bs, m, hb, hm => by
    cases m with
    | zero => omega
    | succ m =>
      cases bs with
      | nil => rfl
      | cons c t =>
        rw [readAll, readAll]
        cases hg : getCount 7 (c :: t) with
        | none => rfl
        | some p =>
          obtain ⟨v, r⟩ := p
          obtain ⟨_, k, h1, h2, h3⟩ := getCount_suf hg
          have hl : r.length ≤ n := by rw [h3, List.length_drop]; simp at hb ⊢; omega
          simp only
          rw [readAll_more n r m hl (by omega)]
def allN (bs : List UInt8) : Option (List Int) := readAll bs.length bs
theorem allN_nil : allN [] = some [] := rfl
theorem allN_step {bs : List UInt8} (h : bs ≠ []) : allN bs = match getCount 7 bs with
    | none => none
    | some (v, r) => (allN r).map (v :: ·) := by
  cases bs with
  | nil => exact absurd rfl h
  | cons c t =>
    unfold allN
    rw [List.length_cons, readAll]
    cases hg : getCount 7 (c :: t) with
    | none => rfl
    | some p =>
      obtain ⟨v, r⟩ := p
      obtain ⟨_, k, h1, h2, h3⟩ := getCount_suf hg
      have hl : r.length ≤ t.length := by rw [h3, List.length_drop]; simp; omega
      simp only
      rw [readAll_more r.length r t.length (Nat.le_refl _) hl]
theorem getCount_nil (most : Int) : getCount most [] = none := rfl
theorem allN_empty {bs : List UInt8} (h : allN bs = some []) : bs = [] := by
  cases bs with
  | nil => rfl
  | cons c t =>
    rw [allN_step (by simp)] at h
    cases hg : getCount 7 (c :: t) with
    | none => rw [hg] at h; cases h
    | some p =>
      obtain ⟨v, r⟩ := p
      rw [hg] at h
      simp only at h
      cases ha : allN r <;> rw [ha] at h <;> simp at h
theorem readNs_ok : ∀ (k : Nat) (bs : List UInt8) (acc ns : List Int), allN bs = some ns → k ≤ ns.length → ∃ r, readNs k bs acc = some (acc ++ ns.take k, r) ∧ allN r = some (ns.drop k)
  | 0, bs, acc, ns, h, _ => ⟨bs, by rw [readNs, List.take_zero, List.append_nil], by rw [List.drop_zero]; exact h⟩
  | k + 1, bs, acc, ns, h, hk => by
    have hne : bs ≠ [] := fun e => by subst e; rw [allN_nil] at h; injection h with h; subst h; simp at hk
    rw [allN_step hne] at h
    rw [readNs]
    cases hg : getCount 7 bs with
    | none => rw [hg] at h; cases h
    | some p =>
      obtain ⟨v, r⟩ := p
      rw [hg] at h
      simp only at h ⊢
      cases ha : allN r with
      | none => rw [ha] at h; cases h
      | some ms =>
        rw [ha] at h
        simp only [Option.map_some, Option.some.injEq] at h
        subst h
        obtain ⟨r2, h1, h2⟩ := readNs_ok k r (acc ++ [v]) ms ha (by simpa using hk)
        exact ⟨r2, by rw [h1, List.take_succ_cons, List.append_assoc]; rfl, by rw [h2, List.drop_succ_cons]⟩
theorem readNs_short : ∀ (k : Nat) (bs : List UInt8) (acc ns : List Int), allN bs = some ns → ns.length < k → readNs k bs acc = none
  | 0, _, _, _, _, hk => by omega
  | k + 1, bs, acc, ns, h, hk => by
    rw [readNs]
    cases hg : getCount 7 bs with
    | none => rfl
    | some p =>
      obtain ⟨v, r⟩ := p
      have hne : bs ≠ [] := fun e => by subst e; cases hg
      rw [allN_step hne, hg] at h
      simp only at h ⊢
      cases ha : allN r with
      | none => rw [ha] at h; cases h
      | some ms =>
        rw [ha] at h
        simp only [Option.map_some, Option.some.injEq] at h
        subst h
        exact readNs_short k r _ ms ha (by simpa using hk)
theorem readNs_bad : ∀ (k : Nat) (bs : List UInt8) (acc v : List Int) (r : List UInt8), allN bs = none → readNs k bs acc = some (v, r) → allN r = none
  | 0, bs, acc, v, r, h, hr => by
    rw [readNs] at hr
    injection hr with hr
    injection hr with _ hr
    rw [← hr]
    exact h
  | k + 1, bs, acc, v, r, h, hr => by
    rw [readNs] at hr
    cases hg : getCount 7 bs with
    | none => rw [hg] at hr; cases hr
    | some p =>
      obtain ⟨x, t⟩ := p
      have hne : bs ≠ [] := fun e => by subst e; cases hg
      rw [allN_step hne, hg] at h
      rw [hg] at hr
      simp only at h hr
      refine readNs_bad k t _ v r ?_ hr
      cases ha : allN t with
      | none => rfl
      | some ms => rw [ha] at h; cases h
/-- the two rows of numbers of all numbers -/
def splitC (ns : List Int) : Option (List Int × List Int) :=
  if ns.length < 2 ∨ (ns.length : Int) < ns.getD 0 0 + 2 ∨ (ns.length : Int) ≠ ns.getD 0 0 + 2 + ns.getD ((ns.getD 0 0 + 1).toNat) 0 then none
  else some ((ns.drop 1).take (ns.getD 0 0).toNat, ns.drop ((ns.getD 0 0).toNat + 2))
theorem allN_range : ∀ (n : Nat) (bs : List UInt8) (ns : List Int), readAll n bs = some ns → ∀ z ∈ ns, 0 ≤ z ∧ z ≤ 7
  | _, [], ns, h, z, hz => by
    rw [readAll] at h
    injection h with h
    subst h
    cases hz
  | 0, _ :: _, ns, h, z, hz => by rw [readAll] at h; cases h
  | n + 1, c :: t, ns, h, z, hz => by
    rw [readAll] at h
    cases hg : getCount 7 (c :: t) with
    | none => rw [hg] at h; cases h
    | some p =>
      obtain ⟨v, r⟩ := p
      rw [hg] at h
      simp only at h
      cases ha : readAll n r with
      | none => rw [ha] at h; cases h
      | some ms =>
        rw [ha] at h
        simp only [Option.map_some, Option.some.injEq] at h
        subst h
        rcases List.mem_cons.1 hz with rfl | hz
        · exact getCount_range hg
        · exact allN_range n r ms ha z hz
theorem readGrp_ok {bs : List UInt8} {v : Int} {ns : List Int} (h : allN bs = some (v :: ns)) (hk : v.toNat ≤ ns.length) : ∃ r, readGrp bs = some (ns.take v.toNat, r) ∧ allN r = some (ns.drop v.toNat) := by
  obtain ⟨r, h1, h2⟩ := readNs_ok 1 bs [] (v :: ns) h (by simp)
  rw [readNs] at h1
  unfold readGrp
  cases hg : getCount 7 bs with
  | none => rw [hg] at h1; cases h1
  | some p =>
    obtain ⟨x, t⟩ := p
    rw [hg] at h1
    simp only [readNs, List.nil_append, List.take_succ_cons, List.take_zero, Option.some.injEq, Prod.mk.injEq, List.cons.injEq, and_true] at h1
    obtain ⟨rfl, rfl⟩ := h1
    simp only
    obtain ⟨r3, h3, h4⟩ := readNs_ok x.toNat t [] ns (by simpa using h2) hk
    exact ⟨r3, by simpa using h3, h4⟩
theorem readGrp_no {bs : List UInt8} {v : Int} {ns : List Int} (h : allN bs = some (v :: ns)) (hk : ns.length < v.toNat) : readGrp bs = none := by
  obtain ⟨r, h1, h2⟩ := readNs_ok 1 bs [] (v :: ns) h (by simp)
  rw [readNs] at h1
  unfold readGrp
  cases hg : getCount 7 bs with
  | none => rfl
  | some p =>
    obtain ⟨x, t⟩ := p
    rw [hg] at h1
    simp only [readNs, List.nil_append, List.take_succ_cons, List.take_zero, Option.some.injEq, Prod.mk.injEq, List.cons.injEq, and_true] at h1
    obtain ⟨rfl, rfl⟩ := h1
    simp only
    exact readNs_short x.toNat t [] ns (by simpa using h2) hk
theorem readGrp_bad {bs r : List UInt8} {v : List Int} (h : allN bs = none) (hr : readGrp bs = some (v, r)) : allN r = none := by
  unfold readGrp at hr
  cases hg : getCount 7 bs with
  | none => rw [hg] at hr; cases hr
  | some p =>
    obtain ⟨x, t⟩ := p
    have hne : bs ≠ [] := fun e => by subst e; cases hg
    rw [allN_step hne, hg] at h
    rw [hg] at hr
    simp only at h hr
    refine readNs_bad _ t _ v r ?_ hr
    cases ha : allN t with
    | none => rfl
    | some ms => rw [ha] at h; cases h
theorem readGrp_nil : readGrp [] = none := rfl
theorem loadOf_all (bs : List UInt8) : loadOf bs = match allN bs with
    | none => none
    | some ns => match splitC ns with
      | none => none
      | some (v, l) => if confRight v l = true then some (v, l) else none := by
  have hload : ∀ {v l : List Int} {r r2 : List UInt8}, readGrp bs = some (v, r) → readGrp r = some (l, r2) → loadOf bs = if r2 = [] then (if confRight v l = true then some (v, l) else none) else none := fun {v l r r2} h1 h2 => by
    unfold loadOf readConf
    rw [readStage_zero (l2 := []) h1, readStage_one h2]
    simp only [readStage, readFin]
    by_cases hc : confRight v l = true
    · rw [if_pos hc]
      cases r2 with
      | nil => simp [hc]
      | cons a t => simp
    · rw [if_neg hc]
      cases r2 with
      | nil => simp [hc]
      | cons a t => simp
  have hno1 : readGrp bs = none → loadOf bs = none := fun h => by
    unfold loadOf readConf
    rw [readStage_none (by decide) h]
  have hno2 : ∀ {v r}, readGrp bs = some (v, r) → readGrp r = none → loadOf bs = none := fun {v r} h1 h2 => by
    unfold loadOf readConf
    rw [readStage_zero (l2 := []) h1, readStage_none (by decide) h2]
  cases ha : allN bs with
  | none =>
    simp only
    cases h1 : readGrp bs with
    | none => exact hno1 h1
    | some p =>
      obtain ⟨v, r⟩ := p
      have hr := readGrp_bad ha h1
      cases h2 : readGrp r with
      | none => exact hno2 h1 h2
      | some q =>
        obtain ⟨l, r2⟩ := q
        have hr2 := readGrp_bad hr h2
        rw [hload h1 h2, if_neg (fun e => by subst e; rw [allN_nil] at hr2; cases hr2)]
  | some ns =>
    simp only
    cases ns with
    | nil =>
      have hb := allN_empty ha
      subst hb
      rw [hno1 readGrp_nil]
      rfl
    | cons v0 t0 =>
      have hv0 := allN_range _ bs _ ha v0 (List.mem_cons_self ..)
      by_cases hk : v0.toNat ≤ t0.length
      · obtain ⟨r, h1, h2⟩ := readGrp_ok ha hk
        cases ht : t0.drop v0.toNat with
        | nil =>
          rw [ht] at h2
          have hr := allN_empty h2
          subst hr
          rw [hno2 h1 readGrp_nil]
          have hl : t0.length ≤ v0.toNat := List.drop_eq_nil_iff.1 ht
          unfold splitC
          rw [if_pos (.inr (.inl (by simp; omega)))]
        | cons l0 t1 =>
          rw [ht] at h2
          have hl0 := allN_range _ r _ h2 l0 (List.mem_cons_self ..)
          have hlen : t0.length = v0.toNat + 1 + t1.length := by
            have := congrArg List.length ht
            rw [List.length_drop, List.length_cons] at this
            omega
          have hat : t0.getD v0.toNat 0 = l0 := by
            rw [List.getD_eq_getElem?_getD]
            have h3 : (t0.drop v0.toNat)[0]? = some l0 := by rw [ht]; rfl
            rw [List.getElem?_drop, Nat.add_zero] at h3
            rw [h3]
            rfl
          have hi : (v0 + 1).toNat = v0.toNat + 1 := by omega
          have hdr : t0.drop (v0.toNat + 1) = t1 := by
            rw [← List.drop_drop, ht]
            rfl
          have hsp : splitC (v0 :: t0) = if t1.length = l0.toNat then some (t0.take v0.toNat, t1) else none := by
            unfold splitC
            simp only [List.length_cons, List.getD_cons_zero, List.drop_succ_cons, List.drop_zero]
            rw [hi, List.getD_cons_succ, hat, hdr]
            by_cases hc : t1.length = l0.toNat
            · rw [if_pos hc, if_neg (by push_cast; omega)]
            · rw [if_neg hc, if_pos (by push_cast; omega)]
          rw [hsp]
          by_cases hc : l0.toNat ≤ t1.length
          · obtain ⟨r2, h3, h4⟩ := readGrp_ok h2 hc
            rw [hload h1 h3]
            by_cases he : t1.length = l0.toNat
            · have ht1 : t1.take l0.toNat = t1 := List.take_of_length_le (by omega)
              rw [List.drop_of_length_le (by omega)] at h4
              rw [if_pos he, ht1, if_pos (allN_empty h4)]
            · rw [if_neg he, if_neg (fun e => by
                subst e
                rw [allN_nil] at h4
                injection h4 with h4
                have := congrArg List.length h4
                rw [List.length_drop, List.length_nil] at this
                omega)]
          · rw [hno2 h1 (readGrp_no h2 (by omega)), if_neg (by omega)]
      · rw [hno1 (readGrp_no ha (by omega))]
        unfold splitC
        rw [if_pos (.inr (.inl (by simp; omega)))]
/-- where a configuration's rows lie -/
def CfP (P : Nat → Prop) (c : Cf) : Prop := (∀ b off, c.v.a = some ⟨b, off, none⟩ → 0 < c.v.len → P b) ∧ (∀ b off, c.l.a = some ⟨b, off, none⟩ → 0 < c.l.len → P b)
def RLoad (w : World) (bs : List UInt8) (e : Ending) (w' : World) : Prop :=
  ∃ c : Cf, e = .returned (.tuple #[.agg #[.slice c.v.a c.v.len c.v.cap, .slice c.l.a c.l.len c.l.cap], .bool (loadOf bs).isSome]) ∧ ((loadOf bs).isSome = true → c.says = (loadOf bs).getD ([], [])) ∧ c.ok w' ∧ CfP (fun b => w.heap.size ≤ b) c ∧ Below w.heap.size w w'
theorem rload_nil {w w' : World} {bs : List UInt8} (h : loadOf bs = none) (hb : Below w.heap.size w w') : RLoad w bs (.returned (.tuple #[.agg #[.slice none 0 0, .slice none 0 0], .bool false])) w' := by
  refine ⟨⟨⟨none, 0, 0, []⟩, ⟨none, 0, 0, []⟩⟩, ?_, (fun h2 => ?_), ⟨⟨RowN.nil _ _ _, fun _ => ⟨rfl, rfl⟩⟩, ⟨RowN.nil _ _ _, fun _ => ⟨rfl, rfl⟩⟩⟩, ⟨fun b off e => (by cases e), fun b off e => (by cases e)⟩, hb⟩
  · rw [h]; rfl
  · rw [h] at h2; cases h2
/-- a part of a row of numbers -/
theorem RowN.subZ {w : World} {b off n d k : Nat} {zs : List Int} (h : RowN w (some ⟨b, off, none⟩) 1 n (cellsZ zs)) (hk : d + k ≤ n) : RowN w (some ⟨b, off + d, none⟩) 1 k (cellsZ ((zs.drop d).take k)) := by
  have hl : zs.length = n := by have := h.1; rw [cellsZ_len] at this; omega
  refine ⟨by rw [cellsZ_len, List.length_take, List.length_drop]; omega, fun hn => ?_⟩
  obtain ⟨b', off', e, hc⟩ := h.2 (by omega)
  injection e with e
  injection e with e1 e2 _
  subst e1 e2
  refine ⟨b, off + d, rfl, fun j u hu => ?_⟩
  have hu2 : (cellsZ zs)[d + j]? = some u := by
    unfold cellsZ at hu ⊢
    rw [List.getElem?_map, List.getElem?_take] at hu
    split at hu
    · rw [List.getElem?_drop] at hu
      rw [List.getElem?_map]
      exact hu
    · simp at hu
  have := hc _ u hu2
  rw [show off + d + j = off + (d + j) by omega]
  exact this
set_option maxRecDepth 100000 in
set_option maxHeartbeats 6400000 in
theorem rload_any (a : Option Addr) (len cap : Nat) (bs : List UInt8) (w : World) (hr : Row8 w a len bs) (hlc : len ≤ cap) (hcm : cap ≤ maxLen) (hn : len ≤ 1000000000) :
    Calls Try.prog 52 #[.slice a len cap] w (RLoad w bs) := by
  simp only [maxLen] at hcm
  obtain ⟨X, hX⟩ : ∃ X, X = w.alloc (.cells #[.slice none 0 0, .slice none 0 0] 26) := ⟨_, rfl⟩
  have hXb : Below w.heap.size w X := hX ▸ below_alloc (Below.refl _ _) _
  have hXs : X.heap.size = w.heap.size + 1 := by rw [hX, World.size_alloc]
  have hXc : X.heap[w.heap.size]? = some (.cells #[.slice none 0 0, .slice none 0 0] 26 (0, 0)) := hX ▸ heap_alloc_new w _
  have h0 := World.ownsRow_lit (base := X.heap.size) (e := 3) (size := 1) X #[] 0 (by omega) (by omega) rfl
  have hlo := loadOf_all bs
  have HLO := Lib.hid hlo
  have HXB := Lib.hid hXb
  have HXS := Lib.hid hXs
  have HXC := Lib.hid hXc
  have HX := Lib.hid hX
  have H0 := Lib.hid h0
  have HR := Lib.hid (hr.below hXb)
  have HBL := Lib.hid hr.1
  clear hr hX hXb hXs hXc h0 hlo
  go_enter Try.func52, Try.ntmps52
  go_wp2_with fail
  rw [← HX.out]
  go_loopw [4, 5] (fun v4 v5 wr => ∃ (d m cq nb cb : Nat) (zs : List Int) (ao ab : Option Addr), v4 = .slice ao m cq ∧ v5 = .slice ab nb cb ∧ Hid (nb = len - d) ∧ d ≤ len ∧ m ≤ d ∧ Hid (Row8 X ab nb (bs.drop d)) ∧ nb ≤ cb ∧ cb ≤ 9223372036854775807 ∧ Hid (zs.length = m) ∧ Hid (wr.ownsRow X.heap.size 3 1 (.slice ao m cq) m (cellsZ zs)) ∧ Hid (ao ≠ none) ∧ Hid (allN bs = (allN (bs.drop d)).map (zs ++ ·)) ∧ Hid (Below X.heap.size X wr)) (fun _ v5 _ => match v5 with | .slice _ n _ => n | _ => 0)
  case atStart =>
    refine ⟨0, 0, 0, len, cap, [], some ⟨X.heap.size, 0, none⟩, a, by rw [HXS.out], rfl, Lib.hid (by omega), by omega, by omega, HR.out, hlc, hcm, rfl, H0.out, (fun h => by cases h), ?_, below_alloc (Below.refl _ _) _⟩
    show _ = _
    rw [List.drop_zero]
    cases allN bs <;> simp
  case round =>
    obtain ⟨d, m, cq, nb, cb, zs, ao, ab, rfl, rfl, HNB, hd, hmd, HROW, hnc, hcb, HZL, HO, HNN, HA, HB⟩ := hrel
    have hnbl : nb ≤ 1000000000 := by have := HNB.out; omega
    by_cases hpos : 0 < nb
    · have hpos' : (0 : Int) < (nb : Int) := by omega
      have hget := refGetNum_any ab nb cb (bs.drop d) wr (HROW.out.below HB.out) (by simp only [maxLen]; omega)
      have hne : bs.drop d ≠ [] := fun e => by
        have := HROW.out.1
        rw [e] at this
        simp at this
        omega
      have hstep := allN_step hne
      cases hg : getCount 7 (bs.drop d) with
      | none =>
        have hno := getCount_none hg
        rw [hg] at hstep
        have hl : loadOf bs = none := by
          rw [HLO.out, HA.out, hstep]
          rfl
        obtain ⟨⟨nn, kk⟩, hnk⟩ : ∃ p, p = numK (bs.drop d) := ⟨_, rfl⟩
        rw [← hnk] at hget hno
        simp only at hget hno
        have HGET := Lib.hid hget
        have HL := Lib.hid hl
        have hC := HB.out.block w.heap.size (by rw [HXS.out]; omega)
        have hC2 := hC.trans HXC.out
        obtain ⟨x0, x1, y0, y1⟩ := two_cells hC2
        have HC := Lib.hid hC2
        clear hget hstep hl hnk hg hne hC hC2
        by_cases h1 : kk = 0
        · subst h1
          clear hno
          go_wp2_with fail
          refine HGET.out.mono ?_
          rintro e w2 ⟨rfl, rfl⟩
          go_wp2_with fail
          exact bodyPost_ret (results_cell_tmp Try.results52 rfl (load_conf (set_block (i := 1) (set_block (i := 0) HC.out _) _))) rfl (rload_nil HL.out (below_set (below_set (HXB.out.trans (HB.out.mono (by rw [HXS.out]; omega))) _ (Nat.le_refl _)) _ (Nat.le_refl _)))
        · have h1' : ((kk : Int) == 0) = false := by simp; omega
          by_cases h2 : nn < 0
          · clear hno
            go_wp2_with fail
            refine HGET.out.mono ?_
            rintro e w2 ⟨rfl, rfl⟩
            go_wp2_with fail
            exact bodyPost_ret (results_cell_tmp Try.results52 rfl (load_conf (set_block (i := 1) (set_block (i := 0) HC.out _) _))) rfl (rload_nil HL.out (below_set (below_set (HXB.out.trans (HB.out.mono (by rw [HXS.out]; omega))) _ (Nat.le_refl _)) _ (Nat.le_refl _)))
          · have h3 : 7 < nn := by omega
            clear hno
            go_wp2_with fail
            refine HGET.out.mono ?_
            rintro e w2 ⟨rfl, rfl⟩
            go_wp2_with fail
            exact bodyPost_ret (results_cell_tmp Try.results52 rfl (load_conf (set_block (i := 1) (set_block (i := 0) HC.out _) _))) rfl (rload_nil HL.out (below_set (below_set (HXB.out.trans (HB.out.mono (by rw [HXS.out]; omega))) _ (Nat.le_refl _)) _ (Nat.le_refl _)))
      | some p =>
        obtain ⟨v, r⟩ := p
        obtain ⟨hnk, K, hK1, hK2, hK3⟩ := getCount_suf hg
        have hv7 := getCount_range hg
        have hrl := HROW.out.1
        have hKl : (bs.drop d).length - r.length = K := by
          have : r.length = (bs.drop d).length - K := by rw [hK3, List.length_drop]
          omega
        rw [hKl] at hnk
        rw [hnk] at hget
        rw [hg] at hstep
        simp only at hstep hget
        rw [hrl] at hK2
        have hA2 : allN bs = (allN (bs.drop (d + K))).map ((zs ++ [v]) ++ ·) := by
          rw [HA.out, hstep, hK3, List.drop_drop]
          cases allN (bs.drop (d + K)) <;> simp
        have hrow2 := row_if ((HROW.out.drop K hK2)) hnc
        rw [List.drop_drop] at hrow2
        have hKi : ((K : Int) == 0) = false := by simp; omega
        have hKn : (K : Int) ≤ (nb : Int) := by omega
        have hKc : (K : Int) ≤ (cb : Int) := by omega
        have hK0 : (0 : Int) ≤ (K : Int) := by omega
        have hv1 : ¬ v < 0 := by omega
        have hv2 : ¬ 7 < v := by omega
        have hwv : IntKind.i64.wrap v = v := by rw [IntKind.wrap_i64] <;> omega
        have HGET := Lib.hid hget
        have HA2 := Lib.hid hA2
        have HROW2 := Lib.hid hrow2
        have HHK1 := Lib.hid hK1
        clear hget hstep hA2 hrow2 hnk hK3 hKl hg hne hv7 hrl hK1
        go_wp2_with fail
        refine HGET.out.mono ?_
        rintro e w2 ⟨rfl, rfl⟩
        go_wp2_with (at_builtin; refine wpList_appendZ rfl (.tmp 30) (.tmp 32) rfl X.heap.size ao m cq (cellsZ zs) rfl (own_keep HO.out fun g _ hl => alloc_far rfl hl) (some ⟨wr.heap.size, 0, none⟩) 1 1 (cellsZ [v]) rfl (RowN.newH _ _ _ 1 1 _ _ rfl rfl rfl) (fun h => by cases h) (cellsZ_one _) (by omega) (by rw [World.size_alloc]; have := HB.out.size; omega) (m + 1) rfl ?_; intro ao3 cap3 w3 hown3 hg3 hat3)
        have hne3 : ao3 ≠ none := by
          rcases hown3.2 with ⟨_, h0⟩ | ⟨g, cp, cur, hv, _⟩
          · omega
          · injection hv with hv
            rw [hv]
            simp
        go_roundw
        case rel =>
          have h1 := HHK1.out
          refine ⟨d + K, m + 1, cap3, nb - K, cb - K, zs ++ [v], ao3, _, rfl, rfl, Lib.hid (by have := HNB.out; omega), by have := HNB.out; omega, by omega, HROW2.out, by omega, by omega, Lib.hid (by rw [List.length_append, HZL.out]; rfl), ?_, hne3, HA2.out, (below_alloc HB.out _).grown hg3 (by rw [World.size_alloc]; have := HB.out.size; omega) (fun g hg => (HO.out.lt g hg).1)⟩
          show World.ownsRow _ _ _ _ _ _ _
          have e : cellsZ (zs ++ [v]) = cellsZ zs ++ cellsZ [v] := by unfold cellsZ; rw [List.map_append]
          rw [e]
          exact hown3
        case measure => have h1 := HHK1.out; show nb - K < nb; omega
    · have hnb0 : nb = 0 := by omega
      have hnil : bs.drop d = [] := List.eq_nil_of_length_eq_zero (by have := HROW.out.1; omega)
      have hall : allN bs = some zs := by
        rw [HA.out, hnil, allN_nil]
        simp
      have hlo := HLO.out
      rw [hall] at hlo
      simp only at hlo
      have hrg := allN_range _ _ _ hall
      have hC2 := (HB.out.block w.heap.size (by rw [HXS.out]; omega)).trans HXC.out
      obtain ⟨x0, x1, y0, y1⟩ := two_cells hC2
      obtain ⟨wo, rfl⟩ : ∃ wo, wo = wr := ⟨_, rfl⟩
      have HC := Lib.hid hC2
      have HZ := Lib.hid hrg
      have hbw := HXB.out.trans (HB.out.mono (by rw [HXS.out]; omega))
      have HBW := Lib.hid hbw
      have hml := HZL.out
      clear hnil hall hrg hC2 HLO HA HROW hbw
      have hmm : m ≤ 1000000000 := by omega
      have hfin : loadOf bs = none → ∀ q, RLoad w bs (.returned (.tuple #[.agg #[.slice none 0 0, .slice none 0 0], .bool false])) ((((wo.drewN q).setCell ⟨w.heap.size, 0, none⟩ (.slice none 0 0)).setCell ⟨w.heap.size, 1, none⟩ (.slice none 0 0))) := fun h q =>
        rload_nil h (below_set (below_set (below_drewN HBW.out _) _ (Nat.le_refl _)) _ (Nat.le_refl _))
      have HFIN := Lib.hid hfin
      clear hfin
      by_cases hm2 : m < 2
      · have hl : loadOf bs = none := by rw [hlo, splitC, if_pos (.inl (by omega))]
        have hm2' : (m : Int) < 2 := by omega
        have d1 : decide ((m : Int) < 2) = true := decide_eq_true hm2'
        have HL := Lib.hid hl
        clear hlo hl
        go_wp2_with fail
        go_quiet (fail)
        go_wp2_with fail
        exact bodyPost_ret (results_cell_tmp Try.results52 rfl (load_conf (set_block (i := 1) (set_block (i := 0) (show (wo.drewN nq).heap[w.heap.size]? = _ from HC.out) _) _))) rfl (HFIN.out HL.out nq)
      · obtain ⟨g, off, z0, rfl, hz0, hc0⟩ := cellZ_at (RowN.of_own HO.out) 0 (by omega)
        have hr0 := HZ.out z0 (List.mem_of_getElem? hz0)
        obtain ⟨k0, rfl⟩ : ∃ k0 : Nat, z0 = (k0 : Int) := ⟨z0.toNat, by omega⟩
        have hg0 : zs.getD 0 0 = (k0 : Int) := by rw [List.getD_eq_getElem?_getD, hz0]; rfl
        rw [splitC, hg0] at hlo
        rw [Nat.add_zero] at hc0
        have hm2' : ¬ (m : Int) < 2 := by omega
        have d1 : decide ((m : Int) < 2) = false := decide_eq_false hm2'
        have hw2 : IntKind.i64.wrap ((k0 : Int) + 2) = (k0 : Int) + 2 := by rw [IntKind.wrap_i64] <;> omega
        have hm0 : (0 : Int) < (m : Int) := by omega
        have hk7 : k0 ≤ 7 := by omega
        clear hz0 hr0 hg0
        by_cases hB : (m : Int) < (k0 : Int) + 2
        · have hl : loadOf bs = none := by rw [hlo, if_pos (.inr (.inl (by omega)))]
          have d2 : decide ((m : Int) < (k0 : Int) + 2) = true := decide_eq_true hB
          have HL := Lib.hid hl
          clear hlo hl
          go_wp2_with fail
          go_quiet (fail)
          go_wp2_with fail
          exact bodyPost_ret (results_cell_tmp Try.results52 rfl (load_conf (set_block (i := 1) (set_block (i := 0) (show (wo.drewN nq).heap[w.heap.size]? = _ from HC.out) _) _))) rfl (HFIN.out HL.out nq)
        · obtain ⟨g', off', z1, he, hz1, hc1⟩ := cellZ_at (RowN.of_own HO.out) (k0 + 1) (by omega)
          injection he with he
          injection he with he1 he2 _
          subst he1 he2
          have hr1 := HZ.out z1 (List.mem_of_getElem? hz1)
          have hn1 : ((k0 : Int) + 1).toNat = k0 + 1 := by omega
          have hn2 : ((k0 : Int)).toNat = k0 := by omega
          have hg1 : zs.getD (k0 + 1) 0 = z1 := by rw [List.getD_eq_getElem?_getD, hz1]; rfl
          rw [hn1, hg1, hn2] at hlo
          have d2 : decide ((m : Int) < (k0 : Int) + 2) = false := decide_eq_false hB
          have hw1 : IntKind.i64.wrap ((k0 : Int) + 1) = (k0 : Int) + 1 := by rw [IntKind.wrap_i64] <;> omega
          have hw3 : IntKind.i64.wrap ((k0 : Int) + 2 + z1) = (k0 : Int) + 2 + z1 := by rw [IntKind.wrap_i64] <;> omega
          have hk1m : (k0 : Int) + 1 < (m : Int) := by omega
          have hk10 : (0 : Int) ≤ (k0 : Int) + 1 := by omega
          clear hz1 hr1 hg1
          by_cases hC : (m : Int) = (k0 : Int) + 2 + z1
          · have d3 : ((m : Int) != (k0 : Int) + 2 + z1) = false := by rw [hC]; simp
            rw [if_neg (by rw [hml]; intro h; rcases h with h | h | h <;> omega)] at hlo
            simp only at hlo
            have HLO2 := Lib.hid hlo
            clear hlo hC
            go_wp2_with fail
            go_quiet (fail)
            go_wp2_with fail
            have hcap := own_cap HO.out
            have hq1 : ¬ cq = 1 := by omega
            have hs1 : (k0 : Int) + 1 ≤ (cq : Int) := by omega
            have hs2 : (1 : Int) ≤ (k0 : Int) + 1 := by omega
            have hs3 : (k0 : Int) + 2 ≤ (m : Int) := by omega
            have hs4 : (m : Int) ≤ (cq : Int) := by omega
            have hs5 : (0 : Int) ≤ (k0 : Int) + 2 := by omega
            have hn3 : ((k0 : Int) + 2).toNat = k0 + 2 := by omega
            have hm0n : 0 < m := by omega
            have hc0q : ∀ q o, ((wo.drewN q).alloc o).cell? ⟨g, off, none⟩ = some (.int .i64 (k0 : Int)) := fun q o => by
              have h1 : (wo.drewN q).cell? ⟨g, off, none⟩ = some (.int .i64 (k0 : Int)) := hc0
              rw [World.cell?_alloc_lt _ _ _ (World.block_lt_of_cell? _ _ h1)]
              exact h1
            have hz1 : ∀ q, ((wo.drewN q).alloc (.cells #[.slice none 0 0, .slice none 0 0] 26)).cell? ⟨wo.heap.size, 0, none⟩ = some (.slice none 0 0) := fun q => (two_cells (heap_alloc_new (wo.drewN q) _)).1
            have hz2 : ∀ q, ((wo.drewN q).alloc (.cells #[.slice none 0 0, .slice none 0 0] 26)).cell? ⟨wo.heap.size, 1, none⟩ = some (.slice none 0 0) := fun q => (two_cells (heap_alloc_new (wo.drewN q) _)).2.1
            have hz3 : ∀ q, ((wo.drewN q).alloc (.cells #[.slice none 0 0, .slice none 0 0] 26)).frozen? ⟨wo.heap.size, 0, none⟩ = false := fun q => (two_cells (heap_alloc_new (wo.drewN q) _)).2.2.1
            have hz4 : ∀ q, ((wo.drewN q).alloc (.cells #[.slice none 0 0, .slice none 0 0] 26)).frozen? ⟨wo.heap.size, 1, none⟩ = false := fun q => (two_cells (heap_alloc_new (wo.drewN q) _)).2.2.2
            clear hcap
            have hg1 := (HO.out.lt g rfl).1
            have hgl := (HO.out.lt g rfl).2
            go_region
            obtain ⟨al, hal⟩ : ∃ al, al = (if cq = k0 + 2 then some (⟨g, off, none⟩ : Addr) else some ⟨g, off + (k0 + 2), none⟩) := ⟨_, rfl⟩
            rw [← hal]
            obtain ⟨Z, hZ⟩ : ∃ Z, Z = (((wo.drewN (nq + 1)).alloc (.cells #[.slice none 0 0, .slice none 0 0] 26)).setCell ⟨wo.heap.size, 0, none⟩ (.slice (some ⟨g, off + 1, none⟩) k0 (cq - 1))).setCell ⟨wo.heap.size, 1, none⟩ (.slice al (m - (k0 + 2)) (cq - (k0 + 2))) := ⟨_, rfl⟩
            have hbZ : Below wo.heap.size wo Z := hZ ▸ below_set (below_set (below_alloc (below_drewN (Below.refl _ _) _) _) _ (Nat.le_refl _)) _ (Nat.le_refl _)
            have hZc : Z.heap[wo.heap.size]? = some (.cells #[.slice (some ⟨g, off + 1, none⟩) k0 (cq - 1), .slice al (m - (k0 + 2)) (cq - (k0 + 2))] 26 (0, 0)) := hZ ▸ set_block (i := 1) (set_block (i := 0) (heap_alloc_new (wo.drewN (nq + 1)) _) _) _
            have hwz : w.heap.size < wo.heap.size := by have := HB.out.size; have := HXS.out; omega
            have hZC := (hbZ.block w.heap.size hwz).trans HC.out
            have hrowZ := (RowN.of_own HO.out).below hbZ
            have hck : Cf.ok Z ⟨⟨some ⟨g, off + 1, none⟩, k0, cq - 1, (zs.drop 1).take k0⟩, ⟨al, m - (k0 + 2), cq - (k0 + 2), zs.drop (k0 + 2)⟩⟩ := by
              refine ⟨⟨hrowZ.subZ (d := 1) (k := k0) (by omega), fun h => by cases h⟩, ⟨?_, fun h => ?_⟩⟩
              · rw [hal]
                split
                · have e : m - (k0 + 2) = 0 := by omega
                  simp only
                  rw [e, List.drop_of_length_le (by omega)]
                  exact RowN.nil _ _ _
                · have h1 := hrowZ.subZ (d := k0 + 2) (k := m - (k0 + 2)) (by omega)
                  rw [List.take_of_length_le (by rw [List.length_drop]; omega)] at h1
                  exact h1
              · simp only at h
                rw [hal] at h
                split at h <;> cases h
            have hag : ∀ b o, al = some ⟨b, o, none⟩ → b = g := fun b o e => by
              rw [hal] at e
              split at e
              · injection e with e
                injection e with e1 _ _
                exact e1.symm
              · injection e with e
                injection e with e1 _ _
                exact e1.symm
            have HAG := Lib.hid hag
            have hgw1 : w.heap.size < g := by have := HXS.out; omega
            have hP : CfP (fun b => w.heap.size ≤ b) ⟨⟨some ⟨g, off + 1, none⟩, k0, cq - 1, (zs.drop 1).take k0⟩, ⟨al, m - (k0 + 2), cq - (k0 + 2), zs.drop (k0 + 2)⟩⟩ := by
              have hgw : w.heap.size ≤ g := by have := HXS.out; omega
              refine ⟨fun b o e _ => ?_, fun b o e _ => ?_⟩
              · simp only at e
                injection e with e
                injection e with e1 _ _
                omega
              · simp only at e
                rw [hal] at e
                split at e
                · injection e with e
                  injection e with e1 _ _
                  omega
                · injection e with e
                  injection e with e1 _ _
                  omega
            have hri := fun V (hV : Below Z.heap.size Z V) => rright15_any ⟨⟨some ⟨g, off + 1, none⟩, k0, cq - 1, (zs.drop 1).take k0⟩, ⟨al, m - (k0 + 2), cq - (k0 + 2), zs.drop (k0 + 2)⟩⟩ V (hck.below hV) (show k0 ≤ 9223372036854775807 ∧ m - (k0 + 2) ≤ 9223372036854775807 by omega)
            simp only at hri
            obtain ⟨bo, hbo⟩ : ∃ bo, bo = confRight ((zs.drop 1).take k0) (zs.drop (k0 + 2)) := ⟨_, rfl⟩
            rw [← hbo] at hri
            obtain ⟨x0', x1', y0', y1'⟩ := two_cells hZC
            obtain ⟨z0, z1, _, _⟩ := two_cells hZc
            rw [← hZ]
            have HRI := Lib.hid hri
            have HCK := Lib.hid hck
            have HP := Lib.hid hP
            have HBO := Lib.hid hbo
            have HZC := Lib.hid hZC
            have HZK := Lib.hid hZc
            have HBZ := Lib.hid hbZ
            clear hag hri hck hP hbo hZC hZc hbZ hz1 hz2 hz3 hz4 hc0q hZ hal hrowZ x0 x1 y0 y1
            have e1 : wo.heap.size ≠ w.heap.size := by omega
            have e2 : w.heap.size ≠ wo.heap.size := by omega
            have HX2 : Hid (∀ V, Below Z.heap.size Z V → V.heap[w.heap.size]? = some (.cells #[.slice none 0 0, .slice none 0 0] 26 (0, 0)) ∧ V.heap[wo.heap.size]? = some (.cells #[.slice (some ⟨g, off + 1, none⟩) k0 (cq - 1), .slice al (m - (k0 + 2)) (cq - (k0 + 2))] 26 (0, 0))) := Lib.hid fun V hV => ⟨(hV.block _ (lt_of_block HZC.out)).trans HZC.out, (hV.block _ (lt_of_block HZK.out)).trans HZK.out⟩
            go_wp2_with fail
            go_region_law (first
              | (go_simp; go_at_call 41; refine (HRI.out _ (Below.refl _ _).drew).mono ?_; rintro e w3 ⟨rfl, hb3⟩
                 have hb3' : Below Z.heap.size Z w3 := below_then (Below.refl _ _).drew hb3
                 obtain ⟨hq1, hq2⟩ := HX2.out _ hb3'
                 obtain ⟨q0, q1, r0, r1⟩ := two_cells hq1
                 obtain ⟨q2, q3, _, _⟩ := two_cells hq2))
            all_goals
              have hbv := below_then HBZ.out hb3'
              have HCV := Lib.hid (HCK.out.below hb3')
              have HBV := Lib.hid (below_then HBW.out hbv)
              have HQ1 := Lib.hid hq1
              clear hb3 hb3' hbv hq1 hq2
              go_wp2_with fail
              refine bodyPost_ret (results_cell_tmp Try.results52 rfl (load_conf (set_block (i := 1) (set_block (i := 0) HQ1.out _) _))) rfl ?_
              have hlo := HLO2.out
              rw [← HBO.out] at hlo
              refine ⟨⟨⟨some ⟨g, off + 1, none⟩, k0, cq - 1, (zs.drop 1).take k0⟩, ⟨al, m - (k0 + 2), cq - (k0 + 2), zs.drop (k0 + 2)⟩⟩, ?_, fun hs => ?_, ?_, HP.out, below_set (below_set HBV.out _ (Nat.le_refl _)) _ (Nat.le_refl _)⟩
              · rw [hlo]
                cases bo <;> rfl
              · rw [hlo] at hs ⊢
                cases bo
                · cases hs
                · rfl
              · have ht : Touch [w.heap.size] w3 ((w3.setCell ⟨w.heap.size, 0, none⟩ (.slice (some ⟨g, off + 1, none⟩) k0 (cq - 1))).setCell ⟨w.heap.size, 1, none⟩ (.slice al (m - (k0 + 2)) (cq - (k0 + 2)))) := touch_set (touch_set (Touch.refl _ _) _ _ _ (by simp)) _ _ _ (by simp)
                refine ⟨⟨HCV.out.1.1.touch ht (fun b o e _ => ?_), HCV.out.1.2⟩, ⟨HCV.out.2.1.touch ht (fun b o e _ => ?_), HCV.out.2.2⟩⟩
                · injection e with e
                  injection e with e1 _ _
                  simp
                  omega
                · have := HAG.out b o e
                  simp
                  omega
          · have hl : loadOf bs = none := by rw [hlo, if_pos (.inr (.inr (by rw [hml]; exact hC)))]
            have d3 : ((m : Int) != (k0 : Int) + 2 + z1) = true := by simp [hC]
            have HL := Lib.hid hl
            clear hlo hl hC
            go_wp2_with fail
            go_quiet (fail)
            go_wp2_with fail
            exact bodyPost_ret (results_cell_tmp Try.results52 rfl (load_conf (set_block (i := 1) (set_block (i := 0) (show (wo.drewN nq).heap[w.heap.size]? = _ from HC.out) _) _))) rfl (HFIN.out HL.out nq)
end Go.Proofs.Ytcejamblndilbaa
