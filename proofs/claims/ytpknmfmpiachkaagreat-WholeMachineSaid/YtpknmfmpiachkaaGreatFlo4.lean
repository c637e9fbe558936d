/- Numbers' codes: the plain mathematics, and the functions on floats. -/
import Derived.Test.YtpknmfmpiachkaaGreatKit
import Derived.Laws.Cover2
import Derived.Laws.Externs
import Derived.Laws.Cover3
namespace Go.Proofs.YtpknmfmpiachkaaGreat
open Go.RowKit
namespace Flo
def nan (b : Nat) : Bool := decide (9218868437227405312 < b % 9223372036854775808)
def canon (b : Nat) : Nat := if nan b then 9221120237041090561 else if b % 9223372036854775808 = 0 then 0 else b
def code (b : Nat) : Nat := if nan b then 0 else if canon b < 9223372036854775808 then canon b + 9223372036854775808 else 18446744073709551615 - canon b
theorem read_zero : (FloatKind.f64.format).read 0 = .number false 0 (FloatKind.f64.format).leastPlace := by
 simp [FloatKind.format, Ieee.Format.read, Ieee.double, Ieee.Format.signWeight, Ieee.Format.binade]
theorem sw : (FloatKind.f64.format).signWeight = 9223372036854775808 := by decide
theorem bn : (FloatKind.f64.format).binade = 4503599627370496 := by decide
theorem ir : (FloatKind.f64.format).infRung = 9218868437227405312 := by decide
theorem order_self (b : Nat) : (FloatKind.f64.format).order b b = if nan b then none else some .eq := by
 unfold Ieee.Format.order Ieee.Format.read
 rw [sw, bn, ir]
 simp only []
 unfold nan
 split
 · rename_i h
   rw [if_neg (by simp; omega)]
   simp [Ieee.Datum.order]
 · split
   · rename_i h1 h2
     rw [if_neg (by simp; omega)]
     simp [Ieee.Datum.order]
   · split
     · rename_i h1 h2 h3
       rw [if_neg (by simp; omega)]
       simp [Ieee.Datum.order]
     · rename_i h1 h2 h3
       rw [if_pos (by simp; omega)]
       simp [Ieee.Datum.order]
theorem order_zero (b : Nat) : ((FloatKind.f64.format).order b 0 == some .eq) = decide (b % 9223372036854775808 = 0) := by
 unfold Ieee.Format.order
 rw [read_zero]
 unfold Ieee.Format.read
 rw [sw, bn, ir]
 simp only []
 have hs : ∀ (s : Bool) (m u : Nat), compare (Ieee.signed s m u) (Ieee.signed false 0 0) = Ordering.eq ↔ m = 0 := fun s m u => by
  have hsh : m <<< u = 0 ↔ m = 0 := by
   rw [Nat.shiftLeft_eq]
   constructor
   · intro h
     rcases Nat.mul_eq_zero.1 h with h | h
     · exact h
     · have := Nat.two_pow_pos u; omega
   · intro h; rw [h]; simp
  rw [Int.compare_eq_eq, ← hsh]
  unfold Ieee.signed
  cases s <;> simp
 have hs' : ∀ (s : Bool) (m u v : Nat), compare (Ieee.signed s m u) (Ieee.signed false 0 v) = Ordering.eq ↔ m = 0 := fun s m u v => by
  rw [← hs s m u]
  simp [Ieee.signed]
 split
 · rename_i h
   rw [Bool.eq_iff_iff]
   simp only [Ieee.Datum.order, beq_iff_eq, Option.some.injEq, decide_eq_true_eq]
   exact hs' _ _ _ _
 · split
   · rename_i h1 h2
     rw [Bool.eq_iff_iff]
     simp only [Ieee.Datum.order, beq_iff_eq, Option.some.injEq, decide_eq_true_eq]
     rw [hs']
     constructor <;> intro h <;> omega
   · split
     · rename_i h1 h2 h3
       rw [decide_eq_false (by omega)]
       simp only [Ieee.Datum.order]
       split <;> rfl
     · rename_i h1 h2 h3
       rw [decide_eq_false (by omega)]
       rfl
def topBit (u : Nat) : Nat := if u < 9223372036854775808 then 0 else 9223372036854775808
def maskTop (u : Nat) : Int := bits .and .u64 (u : Int) 9223372036854775808
def setTop (u : Nat) : Int := bits .or .u64 (u : Int) 9223372036854775808
def dropTop (u : Nat) : Int := bits .andNot .u64 (u : Int) 9223372036854775808
def flip (u : Nat) : Int := bits .xor .u64 IntKind.u64.max (u : Int)
theorem maskTop_eq (u : Nat) (h : u < 18446744073709551616) : maskTop u = (topBit u : Nat) := by
 show IntKind.u64.wrap ((BitVec.ofInt 64 (u : Int) &&& BitVec.ofInt 64 ((2 ^ 63 : Nat) : Int)).toNat : Int) = _
 rw [BitVec.toNat_and, BitVec.ofInt_natCast, BitVec.ofInt_natCast, BitVec.toNat_ofNat, BitVec.toNat_ofNat, Nat.mod_eq_of_lt (show u < 2 ^ 64 by omega), Nat.mod_eq_of_lt (show 2 ^ 63 < 2 ^ 64 by decide), IntKind.wrap_u64]
 have h1 : u &&& 2 ^ 63 = topBit u := by
  apply Nat.eq_of_testBit_eq
  intro i
  rw [Nat.testBit_and, Nat.testBit_two_pow]
  unfold topBit
  by_cases c : u < 9223372036854775808
  · rw [if_pos c, Nat.zero_testBit]
    by_cases hi : 63 = i
    · subst hi; rw [Nat.testBit_lt_two_pow (by omega)]; rfl
    · simp [hi]
  · rw [if_neg c]
    show _ = (2 ^ 63 : Nat).testBit i
    rw [Nat.testBit_two_pow]
    by_cases hi : 63 = i
    · subst hi
      have : u.testBit 63 = true := by
       rw [Nat.testBit_eq_decide_div_mod_eq]
       have : u / 2 ^ 63 = 1 := by omega
       rw [this]; rfl
      rw [this]; rfl
    · simp [hi]
 rw [h1]
 unfold topBit
 split <;> omega
theorem setTop_eq (u : Nat) (h : u < 9223372036854775808) : setTop u = ((u + 9223372036854775808 : Nat) : Int) := by
 show IntKind.u64.wrap ((BitVec.ofInt 64 (u : Int) ||| BitVec.ofInt 64 ((2 ^ 63 : Nat) : Int)).toNat : Int) = _
 rw [BitVec.toNat_or, BitVec.ofInt_natCast, BitVec.ofInt_natCast, BitVec.toNat_ofNat, BitVec.toNat_ofNat, Nat.mod_eq_of_lt (show u < 2 ^ 64 by omega), Nat.mod_eq_of_lt (show 2 ^ 63 < 2 ^ 64 by decide), IntKind.wrap_u64]
 have h1 : u ||| 2 ^ 63 = u + 2 ^ 63 := by
  have := Nat.two_pow_add_eq_or_of_lt (i := 63) (show u < 2 ^ 63 by omega) 1
  rw [Nat.or_comm, ← Nat.mul_one (2 ^ 63), ← this]
  omega
 rw [h1]
 omega
theorem flip_eq (u : Nat) (h : u < 18446744073709551616) : flip u = ((18446744073709551615 - u : Nat) : Int) := by
 have h1 : (BitVec.ofInt 64 (u : Int)) = BitVec.ofNat 64 u := BitVec.ofInt_natCast _ _
 have h2 : BitVec.ofInt 64 IntKind.u64.max = BitVec.allOnes 64 := by decide
 show IntKind.u64.wrap ((BitVec.ofInt 64 IntKind.u64.max ^^^ BitVec.ofInt 64 (u : Int)).toNat : Int) = _
 rw [h1, h2, BitVec.allOnes_xor, BitVec.toNat_not, BitVec.toNat_ofNat, Nat.mod_eq_of_lt (show u < 2 ^ 64 by omega), IntKind.wrap_u64]
 omega
theorem dropTop_eq (u : Nat) (h : u < 18446744073709551616) : dropTop u = ((u % 9223372036854775808 : Nat) : Int) := by
 have e : bits .andNot .u64 (u : Int) 9223372036854775808 = IntKind.u64.wrap ((BitVec.ofInt 64 (u : Int) &&& ~~~ BitVec.ofInt 64 9223372036854775808).toNat : Int) := rfl
 unfold dropTop
 rw [e, show ~~~ BitVec.ofInt 64 9223372036854775808 = BitVec.ofNat 64 (2 ^ 63 - 1) from by decide, BitVec.toNat_and, BitVec.ofInt_natCast, BitVec.toNat_ofNat, BitVec.toNat_ofNat, Nat.mod_eq_of_lt (show u < 2 ^ 64 by omega), Nat.mod_eq_of_lt (show 2 ^ 63 - 1 < 2 ^ 64 by decide), Nat.and_two_pow_sub_one_eq_mod, IntKind.wrap_u64]
 omega
theorem canon_lt (b : Nat) (h : b < 18446744073709551616) : canon b < 18446744073709551616 := by
 unfold canon
 split
 · omega
 · split <;> omega
theorem code_lt (b : Nat) : code b < 18446744073709551616 ∨ ¬ b < 18446744073709551616 := by
 by_cases h : b < 18446744073709551616
 · left
   have := canon_lt b h
   unfold code
   split
   · omega
   · split <;> omega
 · exact .inr h
end Flo
theorem bits64 (b : Nat) (w : World) : (callFunc 96 #[.float .f64 b]).run Tryz.prog w = .ok (.value (.int .u64 (b : Nat))) w := by
 rw [run_callFunc_extern Tryz.func96 (by kernel_rfl) (by kernel_rfl) (by kernel_rfl) (e := Extern.MathFloatBits.float64bits) (by kernel_rfl)]
 rfl
theorem frombits64 (n : Int) (w : World) : (callFunc 156 #[.int .u64 n]).run Tryz.prog w = .ok (.value (.float .f64 n.toNat)) w := by
 rw [run_callFunc_extern Tryz.func156 (by kernel_rfl) (by kernel_rfl) (by kernel_rfl) (e := Extern.MathFloatBits.float64frombits) (by kernel_rfl)]
 rfl
set_option maxHeartbeats 800000 in
theorem isNaN_any (b : Nat) (w : World) : Calls Tryz.prog 48 #[.float .f64 b] w fun e w' => e = .returned (.bool (Flo.nan b)) ∧ w = w' := by
 go_enter Tryz.func48, Tryz.ntmps48
 go_wp2
 go_ret
 refine ⟨?_, rfl⟩
 show Ending.returned (.bool _) = _
 rw [Flo.order_self]
 cases Flo.nan b <;> rfl
set_option maxHeartbeats 800000 in
theorem naN_any (w : World) : Calls Tryz.prog 142 #[] w fun e w' => e = .returned (.float .f64 9221120237041090561) ∧ w = w' := by
 have hf := frombits64
 go_enter Tryz.func142, Tryz.ntmps142
 go_wp2
 go_ret
 exact ⟨rfl, rfl⟩
set_option maxHeartbeats 800000 in
theorem canon_any (b : Nat) (w : World) : Calls Tryz.prog 106 #[.float .f64 b] w fun e w' => e = .returned (.float .f64 (Flo.canon b)) ∧ w = w' := by
 have hz := Flo.order_zero b
 cases hn : Flo.nan b with
 | true =>
   have HN := Lib.hid hn
   clear hn
   go_enter Tryz.func106, Tryz.ntmps106
   go_wp2_with fail
   refine (isNaN_any b _).mono ?_
   rintro e w' ⟨rfl, rfl⟩
   rw [HN.out]
   go_wp2_with fail
   refine (naN_any _).mono ?_
   rintro e w' ⟨rfl, rfl⟩
   go_wp2
   go_ret
   refine ⟨?_, rfl⟩
   rw [Flo.canon, if_pos HN.out]
   rfl
 | false =>
   have HN := Lib.hid hn
   have HZ := Lib.hid hz
   clear hn hz
   go_enter Tryz.func106, Tryz.ntmps106
   go_wp2_with fail
   refine (isNaN_any b _).mono ?_
   rintro e w' ⟨rfl, rfl⟩
   rw [HN.out]
   go_wp2_with fail
   · have h : ((FloatKind.f64.format).order b 0 == some Ordering.eq) = true := by assumption
     go_ret
     refine ⟨?_, rfl⟩
     rw [HZ.out, decide_eq_true_eq] at h
     rw [Flo.canon, if_neg (by rw [HN.out]; simp), if_pos h]
     rfl
   · have h : ((FloatKind.f64.format).order b 0 == some Ordering.eq) = false := by assumption
     go_ret
     refine ⟨?_, rfl⟩
     rw [HZ.out, decide_eq_false_iff_not] at h
     rw [Flo.canon, if_neg (by rw [HN.out]; simp), if_neg h]
     rfl
set_option maxHeartbeats 800000 in
theorem code_any (b : Nat) (w : World) (hb : b < 18446744073709551616) : Calls Tryz.prog 76 #[.float .f64 b] w fun e w' => e = .returned (.int .u64 (Flo.code b : Nat)) ∧ w = w' := by
 have hbits := bits64
 have hcl := Flo.canon_lt b hb
 obtain ⟨c, hc⟩ : ∃ c, c = Flo.canon b := ⟨_, rfl⟩
 rw [← hc] at hcl
 have HC := Lib.hid hc
 have HCL := Lib.hid hcl
 clear hc hcl hb
 cases hn : Flo.nan b with
 | true =>
   have HN := Lib.hid hn
   clear hn
   go_enter Tryz.func76, Tryz.ntmps76
   go_wp2_with fail
   refine (canon_any b _).mono ?_
   rintro e w' ⟨rfl, rfl⟩
   go_wp2_with fail
   refine (isNaN_any b _).mono ?_
   rintro e w' ⟨rfl, rfl⟩
   rw [HN.out]
   go_wp2_with fail
   go_ret
   refine ⟨?_, rfl⟩
   rw [Flo.code, if_pos HN.out]
   rfl
 | false =>
   have HN := Lib.hid hn
   clear hn
   go_enter Tryz.func76, Tryz.ntmps76
   go_wp2_with fail
   refine (canon_any b _).mono ?_
   rintro e w' ⟨rfl, rfl⟩
   rw [← HC.out]
   go_wp2_with fail
   refine (isNaN_any b _).mono ?_
   rintro e w' ⟨rfl, rfl⟩
   rw [HN.out]
   go_wp2_with fail
   · have h : (Flo.maskTop c == 0) = true := by assumption
     rw [Flo.maskTop_eq c HCL.out] at h
     have hlt : c < 9223372036854775808 := by
      unfold Flo.topBit at h
      by_cases hc : c < 9223372036854775808
      · exact hc
      · rw [if_neg hc] at h; simp at h
     go_ret
     refine ⟨?_, rfl⟩
     show Ending.returned (.int .u64 (Flo.setTop c)) = _
     rw [Flo.setTop_eq c hlt, Flo.code, if_neg (by rw [HN.out]; simp), ← HC.out, if_pos hlt]
   · have h : (Flo.maskTop c == 0) = false := by assumption
     rw [Flo.maskTop_eq c HCL.out] at h
     have hlt : ¬ c < 9223372036854775808 := by
      unfold Flo.topBit at h
      by_cases hc : c < 9223372036854775808
      · rw [if_pos hc] at h; simp at h
      · exact hc
     go_ret
     refine ⟨?_, rfl⟩
     show Ending.returned (.int .u64 (Flo.flip c)) = _
     rw [Flo.flip_eq c HCL.out, Flo.code, if_neg (by rw [HN.out]; simp), ← HC.out, if_neg hlt]
end Go.Proofs.YtpknmfmpiachkaaGreat
namespace Go.Proofs.YtpknmfmpiachkaaGreat
open Go.RowKit
namespace Flo
open Ieee
def size (r : Nat) : Nat := if r < 4503599627370496 then r else (4503599627370496 + r % 4503599627370496) <<< (r / 4503599627370496 - 1)
theorem size_succ (r : Nat) : size r < size (r + 1) := by
 unfold size
 by_cases h1 : r + 1 < 4503599627370496
 · rw [if_pos (by omega), if_pos h1]; omega
 · by_cases h2 : r < 4503599627370496
   · have : r = 4503599627370495 := by omega
     subst this
     decide
   · rw [if_neg h2, if_neg h1, Nat.shiftLeft_eq, Nat.shiftLeft_eq]
     by_cases h3 : (r + 1) % 4503599627370496 = 0
     · have e1 : (r + 1) / 4503599627370496 - 1 = (r / 4503599627370496 - 1) + 1 := by omega
       have e2 : r % 4503599627370496 = 4503599627370495 := by omega
       rw [e1, e2, h3, Nat.pow_succ]
       have := Nat.two_pow_pos (r / 4503599627370496 - 1)
       generalize 2 ^ (r / 4503599627370496 - 1) = p at *
       omega
     · have e1 : (r + 1) / 4503599627370496 = r / 4503599627370496 := by omega
       rw [e1]
       exact Nat.mul_lt_mul_of_pos_right (by omega) (Nat.two_pow_pos _)
theorem size_lt {a b : Nat} (h : a < b) : size a < size b := by
 induction b with
 | zero => omega
 | succ b ih =>
   have := size_succ b
   by_cases h2 : a = b
   · subst h2; exact this
   · have := ih (by omega); omega
theorem size_zero : size 0 = 0 := by decide
def val (s : Bool) (r : Nat) : Int := if s then -(size r : Nat) else (size r : Nat)
theorem signed_val (s : Bool) (m u : Nat) : Ieee.signed s m u = (if s then -((m * 2 ^ u : Nat) : Int) else ((m * 2 ^ u : Nat) : Int)) := by
 unfold signed
 rw [Nat.shiftLeft_eq]
theorem compare_scale (a b : Int) (k : Nat) (hk : 0 < k) : compare (a * k) (b * k) = compare a b := by
 rcases Int.lt_trichotomy a b with h | h | h
 · rw [Int.compare_eq_lt.2 h, Int.compare_eq_lt.2]
   exact Int.mul_lt_mul_of_pos_right h (by omega)
 · subst h; rw [Int.compare_eq_eq.2 rfl, Int.compare_eq_eq.2 rfl]
 · rw [Int.compare_eq_gt.2 h, Int.compare_eq_gt.2]
   exact Int.mul_lt_mul_of_pos_right h (by omega)
theorem signed_scale (s : Bool) (m u d : Nat) : signed s m (u + d) = signed s m u * ((2 ^ d : Nat) : Int) := by
 rw [signed_val, signed_val, Nat.pow_add, ← Nat.mul_assoc]
 cases s
 · simp
 · simp [Int.neg_mul]
theorem compare_signed (s t : Bool) (m n : Nat) (i j : Int) (l : Int) (hi : l ≤ i) (hj : l ≤ j) :
 compare (signed s m (i - min i j).toNat) (signed t n (j - min i j).toNat) = compare (signed s m (i - l).toNat) (signed t n (j - l).toNat) := by
 have h1 : (i - l).toNat = (i - min i j).toNat + (min i j - l).toNat := by omega
 have h2 : (j - l).toNat = (j - min i j).toNat + (min i j - l).toNat := by omega
 rw [h1, h2, signed_scale, signed_scale, compare_scale]
 exact Nat.two_pow_pos _
def lp : Int := (2 : Int) - 2 ^ 10 - 52
def sgn (b : Nat) : Bool := b / 9223372036854775808 % 2 == 1
def rung (b : Nat) : Nat := b % 9223372036854775808
theorem dsw : Ieee.double.signWeight = 9223372036854775808 := by decide
theorem dbn : Ieee.double.binade = 4503599627370496 := by decide
theorem dir : Ieee.double.infRung = 9218868437227405312 := by decide
theorem lpe : Ieee.double.leastPlace = lp := by decide
def rd (b : Nat) : Datum :=
 if rung b < 4503599627370496 then .number (sgn b) (rung b) lp
 else if rung b < 9218868437227405312 then .number (sgn b) (4503599627370496 + rung b % 4503599627370496) (lp + (rung b / 4503599627370496 - 1 : Nat))
 else if rung b = 9218868437227405312 then .infinity (sgn b)
 else .nan (sgn b) (rung b - 9218868437227405312)
theorem read_eq (b : Nat) : Ieee.double.read b = rd b := by
 unfold Ieee.Format.read
 rw [dsw, dbn, dir, lpe]
 rfl
theorem rd_fin (b : Nat) (h : rung b < 9218868437227405312) : ∃ m i, rd b = .number (sgn b) m i ∧ lp ≤ i ∧ signed (sgn b) m (i - lp).toNat = val (sgn b) (rung b) := by
 unfold rd
 by_cases h1 : rung b < 4503599627370496
 · rw [if_pos h1]
   refine ⟨_, _, rfl, Int.le_refl _, ?_⟩
   rw [Int.sub_self, signed_val, val, size, if_pos h1]
   simp
 · rw [if_neg h1, if_pos h]
   refine ⟨_, _, rfl, by omega, ?_⟩
   rw [signed_val, val, size, if_neg h1, Nat.shiftLeft_eq, show lp + ((rung b / 4503599627370496 - 1 : Nat) : Int) - lp = ((rung b / 4503599627370496 - 1 : Nat) : Int) by omega]
   rfl
theorem code_eq (b : Nat) (hb : b < 18446744073709551616) (hn : nan b = false) : code b = if sgn b = true ∧ rung b ≠ 0 then 9223372036854775807 - rung b else 9223372036854775808 + rung b := by
 unfold code canon
 rw [hn]
 unfold sgn rung
 simp only [Bool.false_eq_true, if_false, beq_iff_eq]
 by_cases h0 : b % 9223372036854775808 = 0
 · rw [if_pos h0, if_pos (by omega), if_neg (fun h => h.2 h0)]; omega
 · rw [if_neg h0]
   by_cases hs : b < 9223372036854775808
   · rw [if_pos hs, if_neg (by omega)]; omega
   · rw [if_neg hs, if_pos (by omega)]; omega
theorem val_lt (s t : Bool) (r q : Nat) : val s r < val t q ↔ (match s, t with | false, false => r < q | true, true => q < r | true, false => 0 < r ∨ 0 < q | false, true => False) := by
 have hz := size_zero
 have pos : ∀ x, 0 < x ↔ 0 < size x := fun x => ⟨fun h => by have := size_lt h; omega, fun h => by
  rcases Nat.eq_zero_or_pos x with h0 | h0
  · subst h0; omega
  · exact h0⟩
 have lt : ∀ x y, size x < size y ↔ x < y := fun x y => ⟨fun h => by
  rcases Nat.lt_or_ge x y with h1 | h1
  · exact h1
  · rcases Nat.eq_or_lt_of_le h1 with h2 | h2
    · subst h2; omega
    · have := size_lt h2; omega, size_lt⟩
 have h1 := lt r q
 have h2 := lt q r
 have h3 := pos r
 have h4 := pos q
 unfold val
 cases s <;> cases t <;> simp <;> omega
theorem val_inj (s t : Bool) (r q : Nat) (h : val s r = val t q) : (s = t ∧ r = q) ∨ (r = 0 ∧ q = 0) := by
 have h1 : ¬ val s r < val t q := by omega
 have h2 : ¬ val t q < val s r := by omega
 rw [val_lt] at h1 h2
 cases s <;> cases t <;> simp at h1 h2 <;> simp <;> omega
theorem val_compare (b c : Nat) (hb : b < 18446744073709551616) (hc : c < 18446744073709551616) (hnb : nan b = false) (hnc : nan c = false) : compare (val (sgn b) (rung b)) (val (sgn c) (rung c)) = compare (code b) (code c) := by
 have rb : rung b < 9223372036854775808 := by unfold rung; omega
 have rc : rung c < 9223372036854775808 := by unfold rung; omega
 have e1 := code_eq b hb hnb
 have e2 := code_eq c hc hnc
 have l := val_lt (sgn b) (sgn c) (rung b) (rung c)
 have g := val_lt (sgn c) (sgn b) (rung c) (rung b)
 rcases Int.lt_trichotomy (val (sgn b) (rung b)) (val (sgn c) (rung c)) with h | h | h
 · rw [Int.compare_eq_lt.2 h]
   rw [l] at h
   symm
   rw [Nat.compare_eq_lt, e1, e2]
   cases hs : sgn b <;> cases ht : sgn c <;> rw [hs, ht] at h <;> simp at h <;> simp <;> (repeat' split) <;> omega
 · rw [Int.compare_eq_eq.2 h]
   symm
   rw [Nat.compare_eq_eq, e1, e2]
   rcases val_inj _ _ _ _ h with ⟨h1, h2⟩ | ⟨h1, h2⟩
   · rw [h1, h2]
   · rw [h1, h2]; simp
 · rw [Int.compare_eq_gt.2 h]
   rw [g] at h
   symm
   rw [Nat.compare_eq_gt, e1, e2]
   cases hs : sgn b <;> cases ht : sgn c <;> rw [hs, ht] at h <;> simp at h <;> simp <;> (repeat' split) <;> omega
theorem nan_rung (b : Nat) : nan b = decide (9218868437227405312 < rung b) := rfl
theorem order_code (b c : Nat) (hb : b < 18446744073709551616) (hc : c < 18446744073709551616) : Ieee.double.order b c = if nan b || nan c then none else some (compare (code b) (code c)) := by
 unfold Ieee.Format.order
 rw [read_eq, read_eq]
 by_cases hnb : nan b = true
 · have h1 : 9218868437227405312 < rung b := by simpa [nan_rung] using hnb
   rw [hnb]
   unfold rd
   rw [if_neg (by omega), if_neg (by omega), if_neg (by omega)]
   rfl
 · have hnb : nan b = false := by simpa using hnb
   by_cases hnc : nan c = true
   · have h1 : 9218868437227405312 < rung c := by simpa [nan_rung] using hnc
     rw [hnc, hnb]
     have : rd c = .nan (sgn c) (rung c - 9218868437227405312) := by unfold rd; rw [if_neg (by omega), if_neg (by omega), if_neg (by omega)]
     rw [this]
     cases rd b <;> rfl
   · have hnc : nan c = false := by simpa using hnc
     rw [hnb, hnc]
     simp only [Bool.or_self, Bool.false_eq_true, if_false]
     have h1 : rung b ≤ 9218868437227405312 := by have := hnb; simp [nan_rung] at this; omega
     have h2 : rung c ≤ 9218868437227405312 := by have := hnc; simp [nan_rung] at this; omega
     rw [← val_compare b c hb hc hnb hnc]
     have inf : ∀ x, rung x = 9218868437227405312 → rd x = .infinity (sgn x) := fun x h => by
      unfold rd
      rw [if_neg (by omega), if_neg (by omega), if_pos h]
     rcases Nat.lt_or_ge (rung b) 9218868437227405312 with h3 | h3
     · obtain ⟨m, i, e1, hi, v1⟩ := rd_fin b h3
       rcases Nat.lt_or_ge (rung c) 9218868437227405312 with h4 | h4
       · obtain ⟨n, j, e2, hj, v2⟩ := rd_fin c h4
         rw [e1, e2]
         simp only [Datum.order]
         rw [compare_signed _ _ _ _ _ _ lp hi hj, v1, v2]
       · rw [e1, inf c (by omega)]
         simp only [Datum.order, Option.some.injEq]
         symm
         have l := val_lt (sgn b) (sgn c) (rung b) (rung c)
         have g := val_lt (sgn c) (sgn b) (rung c) (rung b)
         cases hs : sgn c with
         | true =>
           rw [hs] at l g
           simp only [if_true]
           rw [Int.compare_eq_gt]
           rw [g]
           cases sgn b <;> simp <;> omega
         | false =>
           rw [hs] at l g
           simp only [Bool.false_eq_true, if_false]
           rw [Int.compare_eq_lt, l]
           cases sgn b <;> simp <;> omega
     · rw [inf b (by omega)]
       rcases Nat.lt_or_ge (rung c) 9218868437227405312 with h4 | h4
       · obtain ⟨n, j, e2, hj, v2⟩ := rd_fin c h4
         rw [e2]
         simp only [Datum.order, Option.some.injEq]
         symm
         have l := val_lt (sgn b) (sgn c) (rung b) (rung c)
         have g := val_lt (sgn c) (sgn b) (rung c) (rung b)
         cases hs : sgn b with
         | true =>
           rw [hs] at l g
           simp only [if_true]
           rw [Int.compare_eq_lt, l]
           cases sgn c <;> simp <;> omega
         | false =>
           rw [hs] at l g
           simp only [Bool.false_eq_true, if_false]
           rw [Int.compare_eq_gt, g]
           cases sgn c <;> simp <;> omega
       · rw [inf c (by omega)]
         simp only [Datum.order, Option.some.injEq]
         have e1 : rung b = 9218868437227405312 := by omega
         have e2 : rung c = 9218868437227405312 := by omega
         rw [e1, e2]
         have l := val_lt (sgn b) (sgn c) 9218868437227405312 9218868437227405312
         have g := val_lt (sgn c) (sgn b) 9218868437227405312 9218868437227405312
         symm
         cases hs : sgn b <;> cases ht : sgn c <;> rw [hs, ht] at l g
         · rw [Int.compare_eq_eq.2 rfl]; rfl
         · rw [Int.compare_eq_gt.2 (by rw [g]; simp)]; rfl
         · rw [Int.compare_eq_lt.2 (by rw [l]; simp)]; rfl
         · rw [Int.compare_eq_eq.2 rfl]; rfl
theorem order_f64 (b c : Nat) (hb : b < 18446744073709551616) (hc : c < 18446744073709551616) : (FloatKind.f64.format).order b c = if nan b || nan c then none else some (compare (code b) (code c)) := order_code b c hb hc
def feq (b c : Nat) : Bool := !nan b && !nan c && decide (code b = code c)
def flt (b c : Nat) : Bool := !nan b && !nan c && decide (code b < code c)
def fle (b c : Nat) : Bool := !nan b && !nan c && decide (code b ≤ code c)
theorem run_eq (b c : Nat) (hb : b < 18446744073709551616) (hc : c < 18446744073709551616) : ((FloatKind.f64.format).order b c == some .eq) = feq b c := by
 rw [order_f64 b c hb hc]
 unfold feq
 rw [Bool.eq_iff_iff]; cases nan b <;> cases nan c <;> simp
theorem run_lt (b c : Nat) (hb : b < 18446744073709551616) (hc : c < 18446744073709551616) : ((FloatKind.f64.format).order b c == some .lt) = flt b c := by
 rw [order_f64 b c hb hc]
 unfold flt
 rw [Bool.eq_iff_iff]; cases nan b <;> cases nan c <;> simp [Nat.compare_eq_lt]
theorem run_gt (b c : Nat) (hb : b < 18446744073709551616) (hc : c < 18446744073709551616) : ((FloatKind.f64.format).order b c == some .gt) = flt c b := by
 rw [order_f64 b c hb hc]
 unfold flt
 rw [Bool.eq_iff_iff]; cases nan b <;> cases nan c <;> simp [Nat.compare_eq_gt]
theorem run_le (b c : Nat) (hb : b < 18446744073709551616) (hc : c < 18446744073709551616) : ((FloatKind.f64.format).order b c == some .lt || (FloatKind.f64.format).order b c == some .eq) = fle b c := by
 rw [run_eq b c hb hc, run_lt b c hb hc]
 unfold flt feq fle
 rw [Bool.eq_iff_iff]; cases nan b <;> cases nan c <;> simp <;> omega
theorem run_ge (b c : Nat) (hb : b < 18446744073709551616) (hc : c < 18446744073709551616) : ((FloatKind.f64.format).order b c == some .gt || (FloatKind.f64.format).order b c == some .eq) = fle c b := by
 rw [run_eq b c hb hc, run_gt b c hb hc]
 unfold flt feq fle
 rw [Bool.eq_iff_iff]; cases nan b <;> cases nan c <;> simp <;> omega
def cmpN (x y : Nat) : Int := if x < y then -1 else if y < x then 1 else 0
def cmp (a b : Nat) : Int := cmpN (code a) (code b)
def up (b : Nat) : Nat := if b % 9223372036854775808 = 0 then 1 else if b < 9223372036854775808 then b + 1 else b - 1
def down (b : Nat) : Nat := if b % 9223372036854775808 = 0 then 9223372036854775809 else if b < 9223372036854775808 then b - 1 else b + 1
def next (b : Nat) : Nat := if nan b then 18442240474082181120 else if b = 9218868437227405312 then b else canon (up b)
def prev (b : Nat) : Nat := if nan b || decide (b = 18442240474082181120) then 9221120237041090561 else canon (down b)
theorem nan_lt (b : Nat) : nan b = false → rung b ≤ 9218868437227405312 := fun h => by simpa [nan_rung] using h
theorem code_num (b : Nat) (hn : nan b = false) (hc : canon b = b) : code b = if b < 9223372036854775808 then b + 9223372036854775808 else 18446744073709551615 - b := by
 unfold code; rw [hn, hc]; simp
theorem code_pos (b : Nat) (hb : b < 18446744073709551616) (hn : nan b = false) : 0 < code b := by
 have h1 := nan_lt b hn
 have h2 : rung b = b % 9223372036854775808 := rfl
 have h3 : nan b = false := hn
 unfold code canon
 rw [h3]
 simp only [Bool.false_eq_true, if_false]
 repeat' split
 all_goals omega
theorem code_inj (b c : Nat) (hb : b < 18446744073709551616) (hc : c < 18446744073709551616) (h : code b = code c) (hcb : canon b = b) (hcc : canon c = c) : b = c := by
 have nn : ∀ x, nan x = true → canon x = x → x = 9221120237041090561 ∧ code x = 0 := fun x hx hy => by
  refine ⟨?_, by unfold code; rw [if_pos hx]⟩
  unfold canon at hy; rw [if_pos hx] at hy; exact hy.symm
 cases h1 : nan b <;> cases h2 : nan c
 · rw [code_num b h1 hcb, code_num c h2 hcc] at h
   split at h <;> split at h <;> omega
 · have := code_pos b hb h1; have := (nn c h2 hcc).2; omega
 · have := code_pos c hc h2; have := (nn b h1 hcb).2; omega
 · rw [(nn b h1 hcb).1, (nn c h2 hcc).1]
theorem canon_nan : nan 9221120237041090561 = true := by decide
theorem canon_canon (b : Nat) : canon (canon b) = canon b := by
 unfold canon
 split
 · rw [if_pos canon_nan]
 · split
   · decide
   · rfl
theorem nan_canon (b : Nat) : nan (canon b) = nan b := by
 unfold canon
 split
 · rw [canon_nan]; symm; assumption
 · split
   · rename_i h _
     rw [show nan 0 = false by decide]; symm; simpa using h
   · rfl
theorem code_canon (b : Nat) : code (canon b) = code b := by
 unfold code
 rw [nan_canon, canon_canon]
theorem up_lt (b : Nat) (hb : b < 18446744073709551616) : up b < 18446744073709551616 := by
 unfold up; split
 · omega
 · split <;> omega
theorem down_lt (b : Nat) (hb : b < 18446744073709551616) (hn : nan b = false) : down b < 18446744073709551616 := by
 have := nan_lt b hn
 unfold rung at this
 unfold down; split
 · omega
 · split <;> omega
theorem next_lt (b : Nat) (hb : b < 18446744073709551616) : next b < 18446744073709551616 := by
 unfold next; split
 · omega
 · split
   · exact hb
   · exact canon_lt _ (up_lt b hb)
theorem prev_lt (b : Nat) (hb : b < 18446744073709551616) : prev b < 18446744073709551616 := by
 unfold prev; split
 · omega
 · exact canon_lt _ (down_lt b hb (by rename_i h; simp at h; exact h.1))
theorem next_num (b : Nat) (hb : b < 18446744073709551616) (hn : nan b = false) : nan (next b) = false := by
 have := nan_lt b hn
 unfold rung at this
 unfold next
 rw [hn]
 simp only [Bool.false_eq_true, if_false]
 split
 · subst_vars; decide
 · rw [nan_canon]
   unfold nan up
   split
   · decide
   · split
     · simp; omega
     · simp; omega
theorem prev_num (b : Nat) (hb : b < 18446744073709551616) (hn : nan b = false) (hi : b ≠ 18442240474082181120) : nan (prev b) = false := by
 have := nan_lt b hn
 unfold rung at this
 unfold prev
 rw [hn]
 simp only [Bool.false_or, decide_eq_true_eq, if_neg hi, nan_canon]
 unfold nan down
 split
 · decide
 · split <;> simp <;> omega
theorem canon_next (b : Nat) (hc : canon b = b) : canon (next b) = next b := by
 unfold next
 split
 · decide
 · split
   · exact hc
   · exact canon_canon _
theorem canon_prev (b : Nat) : canon (prev b) = prev b := by
 unfold prev
 split
 · decide
 · exact canon_canon _
def neg (b : Nat) : Nat := if b < 9223372036854775808 then b + 9223372036854775808 else b - 9223372036854775808
theorem neg_eq (b : Nat) (h : b < 18446744073709551616) : Op.negFloat .f64 b = neg b := by
 have e : Op.negFloat .f64 b = b ^^^ 2 ^ 63 := rfl
 have low : ∀ x, x < 9223372036854775808 → x ^^^ 2 ^ 63 = x + 2 ^ 63 := fun x hx => by
  have h1 := Nat.two_pow_add_eq_or_of_lt (i := 63) (show x < 2 ^ 63 by omega) 1
  rw [Nat.mul_one] at h1
  rw [Nat.add_comm, h1]
  apply Nat.eq_of_testBit_eq
  intro i
  rw [Nat.testBit_xor, Nat.testBit_or, Nat.testBit_two_pow]
  by_cases hi : 63 = i
  · subst hi; rw [Nat.testBit_lt_two_pow (by omega)]; rfl
  · simp [hi]
 rw [e]
 unfold neg
 split
 · rw [low b (by omega)]
 · have h2 := low (b - 9223372036854775808) (by omega)
   rw [show b - 9223372036854775808 + 2 ^ 63 = b by omega] at h2
   have h3 : (b - 9223372036854775808) ^^^ 2 ^ 63 ^^^ 2 ^ 63 = b ^^^ 2 ^ 63 := by rw [h2]
   rw [Nat.xor_assoc, Nat.xor_self, Nat.xor_zero] at h3
   exact h3.symm
theorem neg_lt (b : Nat) (h : b < 18446744073709551616) : neg b < 18446744073709551616 := by
 unfold neg; split <;> omega
theorem isInf_pos (b : Nat) (h : b < 18446744073709551616) : flt 9218868437227405311 b = decide (b = 9218868437227405312) := by
 have hm : nan 9218868437227405311 = false := by decide
 have e := code_eq b h
 have n := nan_rung b
 have hr : rung b = b % 9223372036854775808 := rfl
 have hs : sgn b = (b / 9223372036854775808 % 2 == 1) := rfl
 unfold flt
 rw [hm, show code 9218868437227405311 = 18442240474082181119 by decide]
 rw [Bool.eq_iff_iff]
 cases hn : nan b with
 | true =>
   rw [hn] at n
   have : 9218868437227405312 < rung b := by simpa using n.symm
   simp; omega
 | false =>
   rw [hn] at n
   have h3 : rung b ≤ 9218868437227405312 := by simpa using n.symm
   have e := e hn
   simp only [Bool.not_false, Bool.true_and, decide_eq_true_eq, e]
   cases hsb : sgn b with
   | true =>
     rw [hsb] at hs
     have : b / 9223372036854775808 % 2 = 1 := by simpa using hs.symm
     by_cases h0 : rung b = 0
     · simp [h0]; omega
     · simp [h0]; omega
   | false =>
     rw [hsb] at hs
     have : ¬ b / 9223372036854775808 % 2 = 1 := by simpa using hs.symm
     simp; omega
theorem isInf_neg (b : Nat) (h : b < 18446744073709551616) : flt 9218868437227405311 (neg b) = decide (b = 18442240474082181120) := by
 rw [isInf_pos _ (neg_lt b h)]
 unfold neg
 rw [Bool.eq_iff_iff]
 simp only [decide_eq_true_eq]
 split <;> omega
end Flo
set_option maxHeartbeats 800000 in
theorem isNaN64_any (x : Int) (w : World) : Calls Tryz.prog 192 #[.int .u64 x] w fun e w' => e = .returned (.bool false) ∧ w = w' := by
 go_enter Tryz.func192, Tryz.ntmps192
 go_wp2
 go_ret
 exact ⟨rfl, rfl⟩
set_option maxHeartbeats 800000 in
theorem compare64_any (x y : Nat) (w : World) : Calls Tryz.prog 162 #[.int .u64 (x : Nat), .int .u64 (y : Nat)] w (RetEq w (.int .i64 (Flo.cmpN x y))) := by
 go_enter Tryz.func162, Tryz.ntmps162
 go_wp2_with fail
 refine (isNaN64_any x _).mono ?_
 rintro e w' ⟨rfl, rfl⟩
 go_wp2_with fail
 refine (isNaN64_any y _).mono ?_
 rintro e w' ⟨rfl, rfl⟩
 go_wp2_with fail
 all_goals go_ret
 · exact ⟨ret_int (by rw [Flo.cmpN, if_pos (by assumption)]), rfl⟩
 · exact ⟨ret_int (by rw [Flo.cmpN, if_neg (by omega), if_pos (by assumption)]), rfl⟩
 · exact ⟨ret_int (by rw [Flo.cmpN, if_neg (by omega), if_neg (by omega)]), rfl⟩
set_option maxHeartbeats 800000 in
theorem cmp_any (a b : Nat) (w : World) (ha : a < 18446744073709551616) (hb : b < 18446744073709551616) : Calls Tryz.prog 130 #[.float .f64 a, .float .f64 b] w (RetEq w (.int .i64 (Flo.cmp a b))) := by
 have h := compare64_any (Flo.code a) (Flo.code b)
 have H := Lib.hid h
 clear h
 go_enter Tryz.func130, Tryz.ntmps130
 go_wp2_with fail
 refine (code_any a _ ha).mono ?_
 rintro e w' ⟨rfl, rfl⟩
 go_wp2_with fail
 refine (code_any b _ hb).mono ?_
 rintro e w' ⟨rfl, rfl⟩
 go_wp2_with fail
 refine (H.out _).mono ?_
 rintro e w' ⟨rfl, rfl⟩
 go_wp2_with fail
 go_ret
 exact ⟨rfl, rfl⟩
set_option maxHeartbeats 800000 in
theorem inf_any (w : World) : Calls Tryz.prog 158 #[.int .i64 1] w fun e w' => e = .returned (.float .f64 9218868437227405312) ∧ w = w' := by
 have hf := frombits64
 go_enter Tryz.func158, Tryz.ntmps158
 go_wp2
 go_ret
 exact ⟨rfl, rfl⟩
set_option maxHeartbeats 800000 in
theorem infNeg_any (w : World) : Calls Tryz.prog 158 #[.int .i64 (-1)] w fun e w' => e = .returned (.float .f64 18442240474082181120) ∧ w = w' := by
 have hf := frombits64
 go_enter Tryz.func158, Tryz.ntmps158
 go_wp2
 go_ret
 exact ⟨rfl, rfl⟩
set_option maxHeartbeats 800000 in
theorem isInf_any (b : Nat) (w : World) (hb : b < 18446744073709551616) : Calls Tryz.prog 159 #[.float .f64 b, .int .i64 1] w (RetEq w (.bool (decide (b = 9218868437227405312)))) := by
 have h := Flo.run_gt b 9218868437227405311 hb (by omega)
 rw [Flo.isInf_pos b hb] at h
 have H := Lib.hid h
 clear h
 go_enter Tryz.func159, Tryz.ntmps159
 go_wp2
 go_ret
 exact ⟨by rw [← H.out]; rfl, rfl⟩
set_option maxHeartbeats 800000 in
theorem isInfNeg_any (b : Nat) (w : World) (hb : b < 18446744073709551616) : Calls Tryz.prog 159 #[.float .f64 b, .int .i64 (-1)] w (RetEq w (.bool (decide (b = 18442240474082181120)))) := by
 have h := Flo.run_gt (Flo.neg b) 9218868437227405311 (Flo.neg_lt b hb) (by omega)
 rw [Flo.isInf_neg b hb, ← Flo.neg_eq b hb] at h
 have H := Lib.hid h
 have hn : ∀ w, (Op.unary .neg (.float .f64 b)).run Tryz.prog w = .ok (.float .f64 (Op.negFloat .f64 b)) w := fun _ => rfl
 clear h
 go_enter Tryz.func159, Tryz.ntmps159
 go_wp2
 go_ret
 exact ⟨by rw [← H.out]; rfl, rfl⟩
end Go.Proofs.YtpknmfmpiachkaaGreat
namespace Go.Proofs.YtpknmfmpiachkaaGreat
open Go.RowKit
namespace Flo
theorem codeInf : code 9218868437227405312 = 18442240474082181120 := by decide
theorem codeNegInf : code 18442240474082181120 = 4503599627370495 := by decide
theorem lt_inf (b : Nat) (hb : b < 18446744073709551616) (hn : nan b = false) (hi : b ≠ 9218868437227405312) : code b < 18442240474082181120 := by
 have h1 := nan_lt b hn
 have e := code_eq b hb hn
 have hr : rung b = b % 9223372036854775808 := rfl
 have hs : sgn b = (b / 9223372036854775808 % 2 == 1) := rfl
 rw [e]
 split
 · omega
 · rename_i h
   cases hs2 : sgn b with
   | true => simp [hs2] at h; omega
   | false =>
     rw [hs2] at hs
     have : ¬ b / 9223372036854775808 % 2 = 1 := by simpa using hs.symm
     omega
theorem gt_negInf (b : Nat) (hb : b < 18446744073709551616) (hn : nan b = false) (hi : b ≠ 18442240474082181120) : 4503599627370495 < code b := by
 have h1 := nan_lt b hn
 have e := code_eq b hb hn
 have hr : rung b = b % 9223372036854775808 := rfl
 have hs : sgn b = (b / 9223372036854775808 % 2 == 1) := rfl
 rw [e]
 split
 · rename_i h
   rw [h.1] at hs
   have : b / 9223372036854775808 % 2 = 1 := by simpa using hs.symm
   omega
 · omega
theorem flt_inf (b : Nat) (hb : b < 18446744073709551616) (hn : nan b = false) (hi : b ≠ 9218868437227405312) : flt b 9218868437227405312 = true ∧ feq b 9218868437227405312 = false := by
 have := lt_inf b hb hn hi
 unfold flt feq
 rw [hn, codeInf, show nan 9218868437227405312 = false by decide]
 simp; omega
theorem flt_negInf (b : Nat) (hb : b < 18446744073709551616) (hn : nan b = false) (hi : b ≠ 18442240474082181120) : flt b 18442240474082181120 = false ∧ feq b 18442240474082181120 = false := by
 have := gt_negInf b hb hn hi
 unfold flt feq
 rw [hn, codeNegInf, show nan 18442240474082181120 = false by decide]
 simp; omega
theorem flt_zero (b : Nat) (hb : b < 18446744073709551616) (hn : nan b = false) (h0 : b % 9223372036854775808 ≠ 0) : flt 0 b = decide (b < 9223372036854775808) := by
 have e := code_eq b hb hn
 have hr : rung b = b % 9223372036854775808 := rfl
 have hs : sgn b = (b / 9223372036854775808 % 2 == 1) := rfl
 unfold flt
 rw [hn, e, show nan 0 = false by decide, show code 0 = 9223372036854775808 by decide]
 rw [Bool.eq_iff_iff]
 cases hs2 : sgn b with
 | true =>
   rw [hs2] at hs
   have : b / 9223372036854775808 % 2 = 1 := by simpa using hs.symm
   simp [hr, h0]; omega
 | false =>
   rw [hs2] at hs
   have : ¬ b / 9223372036854775808 % 2 = 1 := by simpa using hs.symm
   simp; omega
end Flo
set_option maxHeartbeats 800000 in
theorem copysign_pos (w : World) : Calls Tryz.prog 183 #[.float .f64 1, .float .f64 9218868437227405312] w (RetEq w (.float .f64 1)) := by
 have hf := frombits64
 have hb := bits64
 go_enter Tryz.func183, Tryz.ntmps183
 go_wp2
 go_ret
 exact ⟨rfl, rfl⟩
set_option maxHeartbeats 800000 in
theorem copysign_neg (w : World) : Calls Tryz.prog 183 #[.float .f64 1, .float .f64 18442240474082181120] w (RetEq w (.float .f64 9223372036854775809)) := by
 have hf := frombits64
 have hb := bits64
 go_enter Tryz.func183, Tryz.ntmps183
 go_wp2
 go_ret
 exact ⟨rfl, rfl⟩
theorem wrap64u (n : Int) (h0 : 0 ≤ n) (h1 : n < 18446744073709551616) : IntKind.u64.wrap n = n := by rw [IntKind.wrap_u64]; omega
theorem ret_float {a b : Nat} (h : a = b) : Ending.returned (.float .f64 a) = .returned (.float .f64 b) := by rw [h]
set_option maxHeartbeats 800000 in
theorem after_up (b : Nat) (w : World) (hb : b < 18446744073709551616) (hn : Flo.nan b = false) (hi : b ≠ 9218868437227405312) : Calls Tryz.prog 160 #[.float .f64 b, .float .f64 9218868437227405312] w (RetEq w (.float .f64 (Flo.up b))) := by
 have h1 := (Flo.flt_inf b hb hn hi).1
 have h2 := (Flo.flt_inf b hb hn hi).2
 rw [← Flo.run_gt 9218868437227405312 b (by omega) hb] at h1
 rw [← Flo.run_eq b 9218868437227405312 hb (by omega)] at h2
 have hz := Flo.order_zero b
 have hni : Flo.nan 9218868437227405312 = false := by decide
 have nb := isNaN_any b
 have ni := isNaN_any 9218868437227405312
 rw [hn] at nb
 rw [hni] at ni
 have NB := Lib.hid nb
 have NI := Lib.hid ni
 have hf := frombits64
 have hbt := bits64
 have hle := Flo.nan_lt b hn
 unfold Flo.rung at hle
 have HN := Lib.hid hn
 clear nb ni hn hni
 by_cases h0 : b % 9223372036854775808 = 0
 · rw [decide_eq_true h0] at hz
   have HU : Hid (Flo.up b = 1) := by show _ = _; unfold Flo.up; rw [if_pos h0]
   clear h0
   go_enter Tryz.func160, Tryz.ntmps160
   go_wp2_with fail
   refine (NB.out _).mono ?_
   rintro e w' ⟨rfl, rfl⟩
   go_wp2_with fail
   refine (NI.out _).mono ?_
   rintro e w' ⟨rfl, rfl⟩
   go_wp2_with fail
   refine (copysign_pos _).mono ?_
   rintro e w' ⟨rfl, rfl⟩
   go_wp2_with fail
   go_ret
   exact ⟨by rw [HU.out]; rfl, rfl⟩
 · rw [decide_eq_false h0] at hz
   have hg := Flo.run_gt b 0 hb (by omega)
   rw [Flo.flt_zero b hb HN.out h0] at hg
   by_cases hs : b < 9223372036854775808
   · rw [decide_eq_true hs] at hg
     have HU : Hid (Flo.up b = b + 1) := by show _ = _; unfold Flo.up; rw [if_neg h0, if_pos hs]
     have hw := wrap64u ((b : Int) + 1) (by omega) (by omega)
     clear h0 hs
     go_enter Tryz.func160, Tryz.ntmps160
     go_wp2_with fail
     refine (NB.out _).mono ?_
     rintro e w' ⟨rfl, rfl⟩
     go_wp2_with fail
     refine (NI.out _).mono ?_
     rintro e w' ⟨rfl, rfl⟩
     go_wp2_with fail
     go_ret
     exact ⟨ret_float (by rw [HU.out]), rfl⟩
   · rw [decide_eq_false hs] at hg
     have HU : Hid (Flo.up b = b - 1) := by show _ = _; unfold Flo.up; rw [if_neg h0, if_neg hs]
     have hw := wrap64u ((b : Int) - 1) (by omega) (by omega)
     clear h0
     go_enter Tryz.func160, Tryz.ntmps160
     go_wp2_with fail
     refine (NB.out _).mono ?_
     rintro e w' ⟨rfl, rfl⟩
     go_wp2_with fail
     refine (NI.out _).mono ?_
     rintro e w' ⟨rfl, rfl⟩
     go_wp2_with fail
     go_ret
     exact ⟨ret_float (by rw [HU.out]), rfl⟩
set_option maxHeartbeats 800000 in
theorem after_down (b : Nat) (w : World) (hb : b < 18446744073709551616) (hn : Flo.nan b = false) (hi : b ≠ 18442240474082181120) : Calls Tryz.prog 160 #[.float .f64 b, .float .f64 18442240474082181120] w (RetEq w (.float .f64 (Flo.down b))) := by
 have h1 := (Flo.flt_negInf b hb hn hi).1
 have h2 := (Flo.flt_negInf b hb hn hi).2
 rw [← Flo.run_gt 18442240474082181120 b (by omega) hb] at h1
 rw [← Flo.run_eq b 18442240474082181120 hb (by omega)] at h2
 have hz := Flo.order_zero b
 have hni : Flo.nan 18442240474082181120 = false := by decide
 have nb := isNaN_any b
 have ni := isNaN_any 18442240474082181120
 rw [hn] at nb
 rw [hni] at ni
 have NB := Lib.hid nb
 have NI := Lib.hid ni
 have hf := frombits64
 have hbt := bits64
 have hle := Flo.nan_lt b hn
 unfold Flo.rung at hle
 have HN := Lib.hid hn
 clear nb ni hn hni
 by_cases h0 : b % 9223372036854775808 = 0
 · rw [decide_eq_true h0] at hz
   have HU : Hid (Flo.down b = 9223372036854775809) := by show _ = _; unfold Flo.down; rw [if_pos h0]
   clear h0
   go_enter Tryz.func160, Tryz.ntmps160
   go_wp2_with fail
   refine (NB.out _).mono ?_
   rintro e w' ⟨rfl, rfl⟩
   go_wp2_with fail
   refine (NI.out _).mono ?_
   rintro e w' ⟨rfl, rfl⟩
   go_wp2_with fail
   refine (copysign_neg _).mono ?_
   rintro e w' ⟨rfl, rfl⟩
   go_wp2_with fail
   go_ret
   exact ⟨by rw [HU.out]; rfl, rfl⟩
 · rw [decide_eq_false h0] at hz
   have hg := Flo.run_gt b 0 hb (by omega)
   rw [Flo.flt_zero b hb HN.out h0] at hg
   by_cases hs : b < 9223372036854775808
   · rw [decide_eq_true hs] at hg
     have HU : Hid (Flo.down b = b - 1) := by show _ = _; unfold Flo.down; rw [if_neg h0, if_pos hs]
     have hw := wrap64u ((b : Int) - 1) (by omega) (by omega)
     clear h0 hs
     go_enter Tryz.func160, Tryz.ntmps160
     go_wp2_with fail
     refine (NB.out _).mono ?_
     rintro e w' ⟨rfl, rfl⟩
     go_wp2_with fail
     refine (NI.out _).mono ?_
     rintro e w' ⟨rfl, rfl⟩
     go_wp2_with fail
     go_ret
     exact ⟨ret_float (by rw [HU.out]), rfl⟩
   · rw [decide_eq_false hs] at hg
     have HU : Hid (Flo.down b = b + 1) := by show _ = _; unfold Flo.down; rw [if_neg h0, if_neg hs]
     have hw := wrap64u ((b : Int) + 1) (by omega) (by omega)
     clear h0
     go_enter Tryz.func160, Tryz.ntmps160
     go_wp2_with fail
     refine (NB.out _).mono ?_
     rintro e w' ⟨rfl, rfl⟩
     go_wp2_with fail
     refine (NI.out _).mono ?_
     rintro e w' ⟨rfl, rfl⟩
     go_wp2_with fail
     go_ret
     exact ⟨ret_float (by rw [HU.out]), rfl⟩
set_option maxHeartbeats 800000 in
theorem next_any (b : Nat) (w : World) (hb : b < 18446744073709551616) : Calls Tryz.prog 127 #[.float .f64 b] w (RetEq w (.float .f64 (Flo.next b))) := by
 have nb := isNaN_any b
 have ib := isInf_any b
 cases hn : Flo.nan b with
 | true =>
   rw [hn] at nb
   have HU : Hid (Flo.next b = 18442240474082181120) := by show _ = _; unfold Flo.next; rw [if_pos hn]
   have NB := Lib.hid nb
   clear nb ib hn
   go_enter Tryz.func127, Tryz.ntmps127
   go_wp2_with fail
   refine (NB.out _).mono ?_
   rintro e w' ⟨rfl, rfl⟩
   go_wp2_with fail
   refine (infNeg_any _).mono ?_
   rintro e w' ⟨rfl, rfl⟩
   go_wp2_with fail
   go_ret
   exact ⟨by rw [HU.out]; rfl, rfl⟩
 | false =>
   rw [hn] at nb
   have NB := Lib.hid nb
   clear nb
   by_cases hi : b = 9218868437227405312
   · have HU : Hid (Flo.next b = b) := by show _ = _; unfold Flo.next; rw [if_neg (by rw [hn]; simp), if_pos hi]
     rw [decide_eq_true hi] at ib
     have IB := Lib.hid ib
     clear ib hi hn
     go_enter Tryz.func127, Tryz.ntmps127
     go_wp2_with fail
     refine (NB.out _).mono ?_
     rintro e w' ⟨rfl, rfl⟩
     go_wp2_with fail
     refine (IB.out _ hb).mono ?_
     rintro e w' ⟨rfl, rfl⟩
     go_wp2_with fail
     go_ret
     exact ⟨by rw [HU.out]; rfl, rfl⟩
   · have HU : Hid (Flo.next b = Flo.canon (Flo.up b)) := by show _ = _; unfold Flo.next; rw [if_neg (by rw [hn]; simp), if_neg hi]
     have hu := fun w => after_up b w hb hn hi
     have hc := canon_any (Flo.up b)
     rw [decide_eq_false hi] at ib
     have IB := Lib.hid ib
     have UU := Lib.hid hu
     have CC := Lib.hid hc
     clear ib hi hn hu hc
     go_enter Tryz.func127, Tryz.ntmps127
     go_wp2_with fail
     refine (NB.out _).mono ?_
     rintro e w' ⟨rfl, rfl⟩
     go_wp2_with fail
     refine (IB.out _ hb).mono ?_
     rintro e w' ⟨rfl, rfl⟩
     go_wp2_with fail
     refine (inf_any _).mono ?_
     rintro e w' ⟨rfl, rfl⟩
     go_wp2_with fail
     refine (UU.out _).mono ?_
     rintro e w' ⟨rfl, rfl⟩
     go_wp2_with fail
     refine (CC.out _).mono ?_
     rintro e w' ⟨rfl, rfl⟩
     go_wp2_with fail
     go_ret
     exact ⟨by rw [HU.out]; rfl, rfl⟩
set_option maxHeartbeats 800000 in
theorem prev_any (b : Nat) (w : World) (hb : b < 18446744073709551616) : Calls Tryz.prog 128 #[.float .f64 b] w (RetEq w (.float .f64 (Flo.prev b))) := by
 have nb := isNaN_any b
 have ib := isInfNeg_any b
 cases hn : Flo.nan b with
 | true =>
   rw [hn] at nb
   have HU : Hid (Flo.prev b = 9221120237041090561) := by show _ = _; unfold Flo.prev; rw [if_pos (by rw [hn]; rfl)]
   have NB := Lib.hid nb
   clear nb ib hn
   go_enter Tryz.func128, Tryz.ntmps128
   go_wp2_with fail
   refine (NB.out _).mono ?_
   rintro e w' ⟨rfl, rfl⟩
   go_wp2_with fail
   refine (naN_any _).mono ?_
   rintro e w' ⟨rfl, rfl⟩
   go_wp2_with fail
   go_ret
   exact ⟨by rw [HU.out]; rfl, rfl⟩
 | false =>
   rw [hn] at nb
   have NB := Lib.hid nb
   clear nb
   by_cases hi : b = 18442240474082181120
   · have HU : Hid (Flo.prev b = 9221120237041090561) := by show _ = _; unfold Flo.prev; rw [if_pos (by rw [hn, decide_eq_true hi]; rfl)]
     rw [decide_eq_true hi] at ib
     have IB := Lib.hid ib
     clear ib hi hn
     go_enter Tryz.func128, Tryz.ntmps128
     go_wp2_with fail
     refine (NB.out _).mono ?_
     rintro e w' ⟨rfl, rfl⟩
     go_wp2_with fail
     refine (IB.out _ hb).mono ?_
     rintro e w' ⟨rfl, rfl⟩
     go_wp2_with fail
     refine (naN_any _).mono ?_
     rintro e w' ⟨rfl, rfl⟩
     go_wp2_with fail
     go_ret
     exact ⟨by rw [HU.out]; rfl, rfl⟩
   · have HU : Hid (Flo.prev b = Flo.canon (Flo.down b)) := by show _ = _; unfold Flo.prev; rw [if_neg (by rw [hn, decide_eq_false hi]; simp)]
     have hu := fun w => after_down b w hb hn hi
     have hc := canon_any (Flo.down b)
     rw [decide_eq_false hi] at ib
     have IB := Lib.hid ib
     have UU := Lib.hid hu
     have CC := Lib.hid hc
     clear ib hi hn hu hc
     go_enter Tryz.func128, Tryz.ntmps128
     go_wp2_with fail
     refine (NB.out _).mono ?_
     rintro e w' ⟨rfl, rfl⟩
     go_wp2_with fail
     refine (IB.out _ hb).mono ?_
     rintro e w' ⟨rfl, rfl⟩
     go_wp2_with fail
     refine (infNeg_any _).mono ?_
     rintro e w' ⟨rfl, rfl⟩
     go_wp2_with fail
     refine (UU.out _).mono ?_
     rintro e w' ⟨rfl, rfl⟩
     go_wp2_with fail
     refine (CC.out _).mono ?_
     rintro e w' ⟨rfl, rfl⟩
     go_wp2_with fail
     go_ret
     exact ⟨by rw [HU.out]; rfl, rfl⟩
end Go.Proofs.YtpknmfmpiachkaaGreat
namespace Go.Proofs.YtpknmfmpiachkaaGreat
open Go.RowKit
namespace Flo
def least2 (a b : Nat) : Nat := if cmp b a < 0 then b else a
def most2 (a b : Nat) : Nat := if 0 < cmp b a then b else a
def least (a b : Nat) : Nat := canon (least2 a b)
def most (a b : Nat) : Nat := canon (most2 a b)
end Flo
set_option maxHeartbeats 1600000 in
theorem minFunc_any (a b g cap : Nat) (w : World) (ha : a < 18446744073709551616) (hb : b < 18446744073709551616) (h0 : w.cell? ⟨g, 0, none⟩ = some (.float .f64 a)) (h1 : w.cell? ⟨g, 1, none⟩ = some (.float .f64 b)) :
 Calls Tryz.prog 171 #[.slice (some ⟨g, 0, none⟩) 2 cap, .func (.func 130) #[] #[]] w (RetEq w (.float .f64 (Flo.least2 a b))) := by
 have hc := fun w => cmp_any b a w hb ha
 by_cases hlt : Flo.cmp b a < 0
 · have HU : Hid (Flo.least2 a b = b) := by show _ = _; unfold Flo.least2; rw [if_pos hlt]
   obtain ⟨c, hcc⟩ : ∃ c, c = Flo.cmp b a := ⟨_, rfl⟩
   rw [← hcc] at hc hlt
   have HC := Lib.hid hc
   clear hc hcc
   go_enter Tryz.func171, Tryz.ntmps171
   go_wp2_with fail
   refine wp_loop_rounds 2 ?_
   rw [rounds_succ]
   go_wp2_with fail
   refine (HC.out _).mono ?_
   rintro e w' ⟨rfl, rfl⟩
   go_wp2_with fail
   rw [rounds_succ]
   go_wp2_with fail
   go_ret
   exact ⟨by rw [HU.out]; rfl, rfl⟩
 · have HU : Hid (Flo.least2 a b = a) := by show _ = _; unfold Flo.least2; rw [if_neg hlt]
   obtain ⟨c, hcc⟩ : ∃ c, c = Flo.cmp b a := ⟨_, rfl⟩
   rw [← hcc] at hc hlt
   have HC := Lib.hid hc
   clear hc hcc
   go_enter Tryz.func171, Tryz.ntmps171
   go_wp2_with fail
   refine wp_loop_rounds 2 ?_
   rw [rounds_succ]
   go_wp2_with fail
   refine (HC.out _).mono ?_
   rintro e w' ⟨rfl, rfl⟩
   go_wp2_with fail
   rw [rounds_succ]
   go_wp2_with fail
   go_ret
   exact ⟨by rw [HU.out]; rfl, rfl⟩
set_option maxHeartbeats 1600000 in
theorem maxFunc_any (a b g cap : Nat) (w : World) (ha : a < 18446744073709551616) (hb : b < 18446744073709551616) (h0 : w.cell? ⟨g, 0, none⟩ = some (.float .f64 a)) (h1 : w.cell? ⟨g, 1, none⟩ = some (.float .f64 b)) :
 Calls Tryz.prog 172 #[.slice (some ⟨g, 0, none⟩) 2 cap, .func (.func 130) #[] #[]] w (RetEq w (.float .f64 (Flo.most2 a b))) := by
 have hc := fun w => cmp_any b a w hb ha
 by_cases hlt : 0 < Flo.cmp b a
 · have HU : Hid (Flo.most2 a b = b) := by show _ = _; unfold Flo.most2; rw [if_pos hlt]
   obtain ⟨c, hcc⟩ : ∃ c, c = Flo.cmp b a := ⟨_, rfl⟩
   rw [← hcc] at hc hlt
   have HC := Lib.hid hc
   clear hc hcc
   go_enter Tryz.func172, Tryz.ntmps172
   go_wp2_with fail
   refine wp_loop_rounds 2 ?_
   rw [rounds_succ]
   go_wp2_with fail
   refine (HC.out _).mono ?_
   rintro e w' ⟨rfl, rfl⟩
   go_wp2_with fail
   rw [rounds_succ]
   go_wp2_with fail
   go_ret
   exact ⟨by rw [HU.out]; rfl, rfl⟩
 · have HU : Hid (Flo.most2 a b = a) := by show _ = _; unfold Flo.most2; rw [if_neg hlt]
   obtain ⟨c, hcc⟩ : ∃ c, c = Flo.cmp b a := ⟨_, rfl⟩
   rw [← hcc] at hc hlt
   have HC := Lib.hid hc
   clear hc hcc
   go_enter Tryz.func172, Tryz.ntmps172
   go_wp2_with fail
   refine wp_loop_rounds 2 ?_
   rw [rounds_succ]
   go_wp2_with fail
   refine (HC.out _).mono ?_
   rintro e w' ⟨rfl, rfl⟩
   go_wp2_with fail
   rw [rounds_succ]
   go_wp2_with fail
   go_ret
   exact ⟨by rw [HU.out]; rfl, rfl⟩
set_option maxHeartbeats 1600000 in
theorem least_any (a b g cap : Nat) (w : World) (ha : a < 18446744073709551616) (hb : b < 18446744073709551616) (h0 : w.cell? ⟨g, 0, none⟩ = some (.float .f64 a)) (h1 : w.cell? ⟨g, 1, none⟩ = some (.float .f64 b)) :
 Calls Tryz.prog 135 #[.slice (some ⟨g, 0, none⟩) 2 cap] w (RetEq w (.float .f64 (Flo.least a b))) := by
 have h := minFunc_any a b g cap w ha hb h0 h1
 have H := Lib.hid h
 have hc := canon_any (Flo.least2 a b)
 have HC := Lib.hid hc
 clear h hc h0 h1
 go_enter Tryz.func135, Tryz.ntmps135
 go_wp2_with fail
 refine H.out.mono ?_
 rintro e w' ⟨rfl, rfl⟩
 go_wp2_with fail
 refine (HC.out _).mono ?_
 rintro e w' ⟨rfl, rfl⟩
 go_wp2_with fail
 go_ret
 exact ⟨rfl, rfl⟩
set_option maxHeartbeats 1600000 in
theorem most_any (a b g cap : Nat) (w : World) (ha : a < 18446744073709551616) (hb : b < 18446744073709551616) (h0 : w.cell? ⟨g, 0, none⟩ = some (.float .f64 a)) (h1 : w.cell? ⟨g, 1, none⟩ = some (.float .f64 b)) :
 Calls Tryz.prog 136 #[.slice (some ⟨g, 0, none⟩) 2 cap] w (RetEq w (.float .f64 (Flo.most a b))) := by
 have h := maxFunc_any a b g cap w ha hb h0 h1
 have H := Lib.hid h
 have hc := canon_any (Flo.most2 a b)
 have HC := Lib.hid hc
 clear h hc h0 h1
 go_enter Tryz.func136, Tryz.ntmps136
 go_wp2_with fail
 refine H.out.mono ?_
 rintro e w' ⟨rfl, rfl⟩
 go_wp2_with fail
 refine (HC.out _).mono ?_
 rintro e w' ⟨rfl, rfl⟩
 go_wp2_with fail
 go_ret
 exact ⟨rfl, rfl⟩
end Go.Proofs.YtpknmfmpiachkaaGreat
