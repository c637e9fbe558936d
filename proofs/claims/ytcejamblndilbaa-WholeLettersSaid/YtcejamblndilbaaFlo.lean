/- Numbers' codes: the plain mathematics, and the functions on floats. -/
import Derived.Test.YtcejamblndilbaaPk1
import Derived.Laws.Cover2
import Derived.Laws.Externs
namespace Go.Proofs.Ytcejamblndilbaa
open Go.RowKit

namespace Flo
/-- is the word a NaN? -/
def nan (b : Nat) : Bool := decide (9218868437227405312 < b % 9223372036854775808)
/-- the word of a number's form -/
def canon (b : Nat) : Nat := if nan b then 9221120237041090561 else if b % 9223372036854775808 = 0 then 0 else b
def code (b : Nat) : Nat := if nan b then 0 else if canon b < 9223372036854775808 then canon b + 9223372036854775808 else 18446744073709551615 - canon b

theorem read_zero : (FloatKind.f64.format).read 0 = .number false 0 (FloatKind.f64.format).leastPlace := by
  simp [FloatKind.format, Ieee.Format.read, Ieee.double, Ieee.Format.signWeight, Ieee.Format.binade]

theorem sw : (FloatKind.f64.format).signWeight = 9223372036854775808 := by decide
theorem bn : (FloatKind.f64.format).binade = 4503599627370496 := by decide
theorem ir : (FloatKind.f64.format).infRung = 9218868437227405312 := by decide

theorem order_self (b : Nat) : (FloatKind.f64.format).order b b = if nan b then none else some .eq := by
  unfold Ieee.Format.order Ieee.Format.read
  rw [sw, bn, ir]
  simp only []
  unfold nan
  split
  · rename_i h
    rw [if_neg (by simp; omega)]
    simp [Ieee.Datum.order]
  · split
    · rename_i h1 h2
      rw [if_neg (by simp; omega)]
      simp [Ieee.Datum.order]
    · split
      · rename_i h1 h2 h3
        rw [if_neg (by simp; omega)]
        simp [Ieee.Datum.order]
      · rename_i h1 h2 h3
        rw [if_pos (by simp; omega)]
        simp [Ieee.Datum.order]

theorem order_zero (b : Nat) : ((FloatKind.f64.format).order b 0 == some .eq) = decide (b % 9223372036854775808 = 0) := by
  unfold Ieee.Format.order
  rw [read_zero]
  unfold Ieee.Format.read
  rw [sw, bn, ir]
  simp only []
  have hs : ∀ (s : Bool) (m u : Nat), compare (Ieee.signed s m u) (Ieee.signed false 0 0) = Ordering.eq ↔ m = 0 := fun s m u => by
    have hsh : m <<< u = 0 ↔ m = 0 := by
      rw [Nat.shiftLeft_eq]
      constructor
      · intro h
        rcases Nat.mul_eq_zero.1 h with h | h
        · exact h
        · have := Nat.two_pow_pos u; omega
      · intro h; rw [h]; simp
    rw [Int.compare_eq_eq, ← hsh]
    unfold Ieee.signed
    cases s <;> simp
  have hs' : ∀ (s : Bool) (m u v : Nat), compare (Ieee.signed s m u) (Ieee.signed false 0 v) = Ordering.eq ↔ m = 0 := fun s m u v => by
    rw [← hs s m u]
    simp [Ieee.signed]
  split
  · rename_i h
    rw [Bool.eq_iff_iff]
    simp only [Ieee.Datum.order, beq_iff_eq, Option.some.injEq, decide_eq_true_eq]
    exact hs' _ _ _ _
  · split
    · rename_i h1 h2
      rw [Bool.eq_iff_iff]
      simp only [Ieee.Datum.order, beq_iff_eq, Option.some.injEq, decide_eq_true_eq]
      rw [hs']
      constructor <;> intro h <;> omega
    · split
      · rename_i h1 h2 h3
        rw [decide_eq_false (by omega)]
        simp only [Ieee.Datum.order]
        split <;> rfl
      · rename_i h1 h2 h3
        rw [decide_eq_false (by omega)]
        rfl

theorem nan_zero (b : Nat) (h : b % 9223372036854775808 = 0) : nan b = false := by unfold nan; rw [h]; decide

/-- the bit at the top -/
def topBit (u : Nat) : Nat := if u < 9223372036854775808 then 0 else 9223372036854775808
def maskTop (u : Nat) : Int := bits .and .u64 (u : Int) 9223372036854775808
def setTop (u : Nat) : Int := bits .or .u64 (u : Int) 9223372036854775808
def dropTop (u : Nat) : Int := bits .andNot .u64 (u : Int) 9223372036854775808
def flip (u : Nat) : Int := bits .xor .u64 IntKind.u64.max (u : Int)
theorem maskTop_eq (u : Nat) (h : u < 18446744073709551616) : maskTop u = (topBit u : Nat) := by
  show IntKind.u64.wrap ((BitVec.ofInt 64 (u : Int) &&& BitVec.ofInt 64 ((2 ^ 63 : Nat) : Int)).toNat : Int) = _
  rw [BitVec.toNat_and, BitVec.ofInt_natCast, BitVec.ofInt_natCast, BitVec.toNat_ofNat, BitVec.toNat_ofNat, Nat.mod_eq_of_lt (show u < 2 ^ 64 by omega), Nat.mod_eq_of_lt (show 2 ^ 63 < 2 ^ 64 by decide), IntKind.wrap_u64]
  have h1 : u &&& 2 ^ 63 = topBit u := by
    apply Nat.eq_of_testBit_eq
    intro i
    rw [Nat.testBit_and, Nat.testBit_two_pow]
    unfold topBit
    by_cases c : u < 9223372036854775808
    · rw [if_pos c, Nat.zero_testBit]
      by_cases hi : 63 = i
      · subst hi; rw [Nat.testBit_lt_two_pow (by omega)]; rfl
      · simp [hi]
    · rw [if_neg c]
      show _ = (2 ^ 63 : Nat).testBit i
      rw [Nat.testBit_two_pow]
      by_cases hi : 63 = i
      · subst hi
        have : u.testBit 63 = true := by
          rw [Nat.testBit_eq_decide_div_mod_eq]
          have : u / 2 ^ 63 = 1 := by omega
          rw [this]; rfl
        rw [this]; rfl
      · simp [hi]
  rw [h1]
  unfold topBit
  split <;> omega
theorem setTop_eq (u : Nat) (h : u < 9223372036854775808) : setTop u = ((u + 9223372036854775808 : Nat) : Int) := by
  show IntKind.u64.wrap ((BitVec.ofInt 64 (u : Int) ||| BitVec.ofInt 64 ((2 ^ 63 : Nat) : Int)).toNat : Int) = _
  rw [BitVec.toNat_or, BitVec.ofInt_natCast, BitVec.ofInt_natCast, BitVec.toNat_ofNat, BitVec.toNat_ofNat, Nat.mod_eq_of_lt (show u < 2 ^ 64 by omega), Nat.mod_eq_of_lt (show 2 ^ 63 < 2 ^ 64 by decide), IntKind.wrap_u64]
  have h1 : u ||| 2 ^ 63 = u + 2 ^ 63 := by
    have := Nat.two_pow_add_eq_or_of_lt (i := 63) (show u < 2 ^ 63 by omega) 1
    rw [Nat.or_comm, ← Nat.mul_one (2 ^ 63), ← this]
    omega
  rw [h1]
  omega
theorem flip_eq (u : Nat) (h : u < 18446744073709551616) : flip u = ((18446744073709551615 - u : Nat) : Int) := by
  have h1 : (BitVec.ofInt 64 (u : Int)) = BitVec.ofNat 64 u := BitVec.ofInt_natCast _ _
  have h2 : BitVec.ofInt 64 IntKind.u64.max = BitVec.allOnes 64 := by decide
  show IntKind.u64.wrap ((BitVec.ofInt 64 IntKind.u64.max ^^^ BitVec.ofInt 64 (u : Int)).toNat : Int) = _
  rw [h1, h2, BitVec.allOnes_xor, BitVec.toNat_not, BitVec.toNat_ofNat, Nat.mod_eq_of_lt (show u < 2 ^ 64 by omega), IntKind.wrap_u64]
  omega
theorem dropTop_eq (u : Nat) (h : u < 18446744073709551616) : dropTop u = ((u % 9223372036854775808 : Nat) : Int) := by
  have e : bits .andNot .u64 (u : Int) 9223372036854775808 = IntKind.u64.wrap ((BitVec.ofInt 64 (u : Int) &&& ~~~ BitVec.ofInt 64 9223372036854775808).toNat : Int) := rfl
  unfold dropTop
  rw [e, show ~~~ BitVec.ofInt 64 9223372036854775808 = BitVec.ofNat 64 (2 ^ 63 - 1) from by decide, BitVec.toNat_and, BitVec.ofInt_natCast, BitVec.toNat_ofNat, BitVec.toNat_ofNat, Nat.mod_eq_of_lt (show u < 2 ^ 64 by omega), Nat.mod_eq_of_lt (show 2 ^ 63 - 1 < 2 ^ 64 by decide), Nat.and_two_pow_sub_one_eq_mod, IntKind.wrap_u64]
  omega
theorem canon_lt (b : Nat) (h : b < 18446744073709551616) : canon b < 18446744073709551616 := by
  unfold canon
  split
  · omega
  · split <;> omega
theorem code_lt (b : Nat) : code b < 18446744073709551616 ∨ ¬ b < 18446744073709551616 := by
  by_cases h : b < 18446744073709551616
  · left
    have := canon_lt b h
    unfold code
    split
    · omega
    · split <;> omega
  · exact .inr h

end Flo

theorem bits64 (b : Nat) (w : World) : (callFunc 94 #[.float .f64 b]).run Try.prog w = .ok (.value (.int .u64 (b : Nat))) w := by
  rw [run_callFunc_extern Try.func94 (by kernel_rfl) (by kernel_rfl) (by kernel_rfl) (e := Extern.MathFloatBits.float64bits) (by kernel_rfl)]
  rfl
theorem frombits64 (n : Int) (w : World) : (callFunc 108 #[.int .u64 n]).run Try.prog w = .ok (.value (.float .f64 n.toNat)) w := by
  rw [run_callFunc_extern Try.func108 (by kernel_rfl) (by kernel_rfl) (by kernel_rfl) (e := Extern.MathFloatBits.float64frombits) (by kernel_rfl)]
  rfl

set_option maxHeartbeats 800000 in
theorem isNaN_any (b : Nat) (w : World) : Calls Try.prog 96 #[.float .f64 b] w fun e w' => e = .returned (.bool (Flo.nan b)) ∧ w = w' := by
  go_enter Try.func96, Try.ntmps96
  go_wp2
  go_ret
  refine ⟨?_, rfl⟩
  show Ending.returned (.bool _) = _
  rw [Flo.order_self]
  cases Flo.nan b <;> rfl

set_option maxHeartbeats 800000 in
theorem naN_any (w : World) : Calls Try.prog 107 #[] w fun e w' => e = .returned (.float .f64 9221120237041090561) ∧ w = w' := by
  have hf := frombits64
  go_enter Try.func107, Try.ntmps107
  go_wp2
  go_ret
  exact ⟨rfl, rfl⟩

set_option maxHeartbeats 800000 in
theorem canon_any (b : Nat) (w : World) : Calls Try.prog 95 #[.float .f64 b] w fun e w' => e = .returned (.float .f64 (Flo.canon b)) ∧ w = w' := by
  have hz := Flo.order_zero b
  cases hn : Flo.nan b with
  | true =>
    have HN := Lib.hid hn
    clear hn
    go_enter Try.func95, Try.ntmps95
    go_wp2_with fail
    refine (isNaN_any b _).mono ?_
    rintro e w' ⟨rfl, rfl⟩
    rw [HN.out]
    go_wp2_with fail
    refine (naN_any _).mono ?_
    rintro e w' ⟨rfl, rfl⟩
    go_wp2
    go_ret
    refine ⟨?_, rfl⟩
    rw [Flo.canon, if_pos HN.out]
    rfl
  | false =>
    have HN := Lib.hid hn
    have HZ := Lib.hid hz
    clear hn hz
    go_enter Try.func95, Try.ntmps95
    go_wp2_with fail
    refine (isNaN_any b _).mono ?_
    rintro e w' ⟨rfl, rfl⟩
    rw [HN.out]
    go_wp2_with fail
    · have h : ((FloatKind.f64.format).order b 0 == some Ordering.eq) = true := by assumption
      go_ret
      refine ⟨?_, rfl⟩
      rw [HZ.out, decide_eq_true_eq] at h
      rw [Flo.canon, if_neg (by rw [HN.out]; simp), if_pos h]
      rfl
    · have h : ((FloatKind.f64.format).order b 0 == some Ordering.eq) = false := by assumption
      go_ret
      refine ⟨?_, rfl⟩
      rw [HZ.out, decide_eq_false_iff_not] at h
      rw [Flo.canon, if_neg (by rw [HN.out]; simp), if_neg h]
      rfl

set_option maxHeartbeats 800000 in
theorem code_any (b : Nat) (w : World) (hb : b < 18446744073709551616) : Calls Try.prog 64 #[.float .f64 b] w fun e w' => e = .returned (.int .u64 (Flo.code b : Nat)) ∧ w = w' := by
  have hbits := bits64
  have hcl := Flo.canon_lt b hb
  obtain ⟨c, hc⟩ : ∃ c, c = Flo.canon b := ⟨_, rfl⟩
  rw [← hc] at hcl
  have HC := Lib.hid hc
  have HCL := Lib.hid hcl
  clear hc hcl hb
  cases hn : Flo.nan b with
  | true =>
    have HN := Lib.hid hn
    clear hn
    go_enter Try.func64, Try.ntmps64
    go_wp2_with fail
    refine (canon_any b _).mono ?_
    rintro e w' ⟨rfl, rfl⟩
    go_wp2_with fail
    refine (isNaN_any b _).mono ?_
    rintro e w' ⟨rfl, rfl⟩
    rw [HN.out]
    go_wp2_with fail
    go_ret
    refine ⟨?_, rfl⟩
    rw [Flo.code, if_pos HN.out]
    rfl
  | false =>
    have HN := Lib.hid hn
    clear hn
    go_enter Try.func64, Try.ntmps64
    go_wp2_with fail
    refine (canon_any b _).mono ?_
    rintro e w' ⟨rfl, rfl⟩
    rw [← HC.out]
    go_wp2_with fail
    refine (isNaN_any b _).mono ?_
    rintro e w' ⟨rfl, rfl⟩
    rw [HN.out]
    go_wp2_with fail
    · have h : (Flo.maskTop c == 0) = true := by assumption
      rw [Flo.maskTop_eq c HCL.out] at h
      have hlt : c < 9223372036854775808 := by
        unfold Flo.topBit at h
        by_cases hc : c < 9223372036854775808
        · exact hc
        · rw [if_neg hc] at h; simp at h
      go_ret
      refine ⟨?_, rfl⟩
      show Ending.returned (.int .u64 (Flo.setTop c)) = _
      rw [Flo.setTop_eq c hlt, Flo.code, if_neg (by rw [HN.out]; simp), ← HC.out, if_pos hlt]
    · have h : (Flo.maskTop c == 0) = false := by assumption
      rw [Flo.maskTop_eq c HCL.out] at h
      have hlt : ¬ c < 9223372036854775808 := by
        unfold Flo.topBit at h
        by_cases hc : c < 9223372036854775808
        · rw [if_pos hc] at h; simp at h
        · exact hc
      go_ret
      refine ⟨?_, rfl⟩
      show Ending.returned (.int .u64 (Flo.flip c)) = _
      rw [Flo.flip_eq c HCL.out, Flo.code, if_neg (by rw [HN.out]; simp), ← HC.out, if_neg hlt]

end Go.Proofs.Ytcejamblndilbaa
