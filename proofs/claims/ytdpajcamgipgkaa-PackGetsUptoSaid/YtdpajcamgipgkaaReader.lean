/- The reader: Fail, take. -/
import Derived.Test.YtdpajcamgipgkaaUnframe
import Derived.Test.YtdpajcamgipgkaaRowN
import Derived.OneCell
namespace Go.Proofs.Ytdpajcamgipgkaa
open Go.RowKit

/-- The reader in block R still holds the bytes bs. -/
def Rd (w : World) (R : Nat) (bs : List UInt8) : Prop :=
  ∃ a n c, w.heap[R]? = some (.cells #[.slice a n c] 76 (0, 0)) ∧ Row8 w a n bs ∧ n ≤ c ∧ c ≤ maxLen ∧ (a = none → c = 0) ∧ ∀ b off, a = some ⟨b, off, none⟩ → 0 < n → b < R

/-- what a reader panics with -/
def Wrong (code : Int) : Ending := .panicked [{ v := .iface 78 (.agg #[.int .i64 code]), recovered := false }]

theorem grown_set (w : World) (R : Nat) (o : Nat) (v : Value) : w.grownBy (w.setCell ⟨R, o, none⟩ v) (some R) :=
  ⟨rfl, rfl, rfl, by simp [World.setCell], fun k _ hne => Below.heap_setCell w _ v k (fun e => hne (by rw [e]))⟩

theorem Row8.set {w : World} {a : Option Addr} {len : Nat} {bs : List UInt8} (h : Row8 w a len bs) {R o : Nat} (v : Value) (hd : ∀ b off, a = some ⟨b, off, none⟩ → 0 < len → b ≠ R) : Row8 (w.setCell ⟨R, o, none⟩ v) a len bs := by
  refine ⟨h.1, fun i hi => ?_⟩
  obtain ⟨b, off, ha, hc⟩ := h.2 i hi
  refine ⟨b, off, ha, ?_⟩
  rw [World.cell?_setCell_other _ _ _ _ (by intro e; injection e with e1 _; exact hd b off ha (by omega) e1.symm)]
  exact hc

/-- The bytes don't lie in the reader's own block. -/
theorem Rd.apart {w : World} {R : Nat} {a : Option Addr} {n c len : Nat} {bs : List UInt8} {T : TypeId} (hR : w.heap[R]? = some (.cells #[.slice a n c] T (0, 0))) {a' : Option Addr} (h : Row8 w a' len bs) : ∀ b off, a' = some ⟨b, off, none⟩ → 0 < len → b ≠ R := by
  rintro b off rfl hl rfl
  obtain ⟨b', off', he, hc⟩ := h.2 0 hl
  simp only [Option.some.injEq, Addr.mk.injEq, and_true] at he
  obtain ⟨rfl, rfl⟩ := he
  simp only [World.cell?, hR, Nat.add_zero] at hc
  cases off with
  | zero => simp at hc
  | succ m => simp at hc

theorem Row8.take {w : World} {a : Option Addr} {len : Nat} {bs : List UInt8} (h : Row8 w a len bs) (k : Nat) (hk : k ≤ len) : Row8 w a k (bs.take k) := by
  refine ⟨by rw [List.length_take, h.1]; omega, fun i hi => ?_⟩
  obtain ⟨b, off, ha, hc⟩ := h.2 i (by omega)
  refine ⟨b, off, ha, ?_⟩
  rw [List.getD_eq_getElem?_getD, List.getElem?_take, if_pos hi, ← List.getD_eq_getElem?_getD]
  exact hc
theorem Row8.drop {w : World} {a : Option Addr} {len : Nat} {bs : List UInt8} (h : Row8 w a len bs) (k : Nat) (hk : k ≤ len) : Row8 w (Option.map (fun x => x.add k) a) (len - k) (bs.drop k) := by
  refine ⟨by rw [List.length_drop, h.1], fun i hi => ?_⟩
  obtain ⟨b, off, ha, hc⟩ := h.2 (k + i) (by omega)
  subst ha
  refine ⟨b, off + k, by rw [Option.map_some, add_plain], ?_⟩
  rw [drop_getD, Nat.add_assoc]
  exact hc

theorem low_drop {w : World} {a : Option Addr} {n R : Nat} {bs : List UInt8} (h : ∀ b off, a = some ⟨b, off, none⟩ → 0 < n → b < R) (hrow : Row8 w a n bs) (k : Nat) : ∀ b off, Option.map (fun x => x.add k) a = some ⟨b, off, none⟩ → 0 < n - k → b < R := by
  intro b off e hn
  obtain ⟨b', off', rfl, _⟩ := hrow.2 0 (by omega)
  rw [Option.map_some, add_plain] at e
  injection e with e
  injection e with e1
  rw [← e1]
  exact h b' off' rfl (by omega)

set_option maxHeartbeats 800000 in
theorem fail_any (R : Nat) (e : Int) (w : World) :
    Calls Try.prog 27 #[.pointer (some ⟨R, 0, none⟩), .int .i64 e] w fun e' w' => e' = Wrong (if e = 0 then 30 else e) ∧ w = w' := by
  by_cases h : e = 0
  · subst h
    go_enter Try.func27, Try.ntmps27
    go_wp2
    exact ⟨rfl, rfl, rfl⟩
  · have h' : (e == 0) = false := by simpa using h
    go_enter Try.func27, Try.ntmps27
    go_wp2
    exact ⟨rfl, rfl, rfl⟩

set_option maxHeartbeats 800000 in
theorem take_ok (R : Nat) (k : Nat) (bs : List UInt8) (w : World) (hr : Rd w R bs) (hk : k ≤ bs.length) :
    Calls Try.prog 54 #[.pointer (some ⟨R, 0, none⟩), .int .i64 (k : Int)] w fun e w' => ∃ a c, e = .returned (.slice a k c) ∧ Row8 w' a k (bs.take k) ∧ k ≤ c ∧ c ≤ maxLen ∧ (a = none → c = 0) ∧ Rd w' R (bs.drop k) ∧ w.grownBy w' (some R) := by
  obtain ⟨a, n, c, hR, hrow, hnc, hcm, hnil, hlow⟩ := hr
  have hlen := hrow.1
  have hkn : k ≤ n := by omega
  have hcell := cell_of_one hR
  have hfree := free_of_one hR
  have hc' : c ≤ 9223372036854775807 := by simpa [maxLen] using hcm
  have hi1 : (k : Int) ≤ (c : Int) := by omega
  have hi2 : (k : Int) ≤ (n : Int) := by omega
  have HR := Lib.hid hR
  have HROW := Lib.hid hrow
  have HL := Lib.hid hlen
  have HN := Lib.hid hnil
  have HLOW := Lib.hid hlow
  clear hR hrow hlen hk hnil hlow
  go_enter Try.func54, Try.ntmps54
  go_wp2_with fail
  all_goals
    go_ret
    refine ⟨a, _, rfl, (HROW.out.take k hkn).set _ (Rd.apart HR.out (HROW.out.take k hkn)), ?_, ?_, ?_, ⟨_, _, _, one_setCell HR.out, ?_, ?_, ?_, ?_, ?_⟩, grown_set _ _ _ _⟩
    all_goals first
      | omega
      | (exact HN.out)
      | exact low_drop HLOW.out HROW.out k
      | (exact fun b off e h0 => HLOW.out b off e (by omega))
      | (intro h0; have := HN.out h0; omega)
      | (intro h0; have := HN.out (by simpa using h0); omega)
      | exact (HROW.out.drop k hkn).set _ (Rd.apart HR.out (HROW.out.drop k hkn))
      | (have h0 : n - k = 0 := by omega
         have hb : bs.drop k = [] := List.drop_of_length_le (by rw [HL.out]; omega)
         rw [h0, hb]
         exact Row8.nil _ _)

set_option maxHeartbeats 800000 in
theorem take_no (R : Nat) (k : Nat) (bs : List UInt8) (w : World) (hr : Rd w R bs) (hk : bs.length < k) :
    Calls Try.prog 54 #[.pointer (some ⟨R, 0, none⟩), .int .i64 (k : Int)] w fun e w' => e = Wrong 30 ∧ w = w' := by
  obtain ⟨a, n, c, hR, hrow, hnc, hcm, hnil, hlow⟩ := hr
  have hlen := hrow.1
  have hcell := cell_of_one hR
  have hi1 : (n : Int) < (k : Int) := by omega
  clear hR hrow hlen hk hnil hlow
  go_enter Try.func54, Try.ntmps54
  go_wp2_with fail
  refine (fail_any R 30 w).mono ?_
  rintro e w' ⟨rfl, rfl⟩
  simp only [Wrong]
  go_wp2
  exact ⟨rfl, rfl, rfl⟩

end Go.Proofs.Ytdpajcamgipgkaa
