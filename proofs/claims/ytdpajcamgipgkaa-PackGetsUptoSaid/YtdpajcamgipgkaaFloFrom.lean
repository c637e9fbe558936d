/- Codes as floats: flo.From and the document's IsCode, Of, Same, Form. -/
import Derived.Test.YtdpajcamgipgkaaFlo
namespace Go.Proofs.Ytdpajcamgipgkaa
open Go.RowKit

namespace Flo
def of (u : Nat) : Nat := if u = 0 then 9221120237041090561 else if u < 9223372036854775808 then 18446744073709551615 - u else u - 9223372036854775808
def isCode (u : Nat) : Bool := decide (code (of u) = u)
/-- as the document says it -/
def said (u : Nat) : Bool := if u = 0 then true else if u < 9223372036854775808 then decide (9223372036854775808 < 18446744073709551615 - u ∧ 18446744073709551615 - u ≤ 18442240474082181120) else decide (u - 9223372036854775808 ≤ 9218868437227405312)
theorem of_lt (u : Nat) (h : u < 18446744073709551616) : of u < 18446744073709551616 := by unfold of; split; omega; split <;> omega
theorem code_of (u : Nat) (h : u < 18446744073709551616) : isCode u = said u := by
  unfold isCode said
  by_cases h0 : u = 0
  · subst h0; rw [if_pos rfl]; decide
  rw [if_neg h0]
  by_cases h1 : u < 9223372036854775808
  · rw [if_pos h1]
    have e : of u = 18446744073709551615 - u := by unfold of; rw [if_neg h0, if_pos h1]
    rw [e]
    by_cases hn : 9218868437227405312 < (18446744073709551615 - u) % 9223372036854775808
    · have : nan (18446744073709551615 - u) = true := by unfold nan; exact decide_eq_true hn
      rw [code, this, if_pos rfl]
      congr 1
      apply propext
      constructor
      · intro h; omega
      · intro h; omega
    · have hnn : nan (18446744073709551615 - u) = false := by unfold nan; exact decide_eq_false hn
      rw [code, hnn, if_neg (by simp)]
      by_cases hz : (18446744073709551615 - u) % 9223372036854775808 = 0
      · have hc : canon (18446744073709551615 - u) = 0 := by unfold canon; rw [hnn, if_neg (by simp), if_pos hz]
        rw [hc, if_pos (by omega)]
        congr 1
        apply propext
        constructor <;> intro h <;> omega
      · have hc : canon (18446744073709551615 - u) = 18446744073709551615 - u := by unfold canon; rw [hnn, if_neg (by simp), if_neg hz]
        rw [hc, if_neg (by omega)]
        congr 1
        apply propext
        constructor <;> intro h <;> omega
  · rw [if_neg h1]
    obtain ⟨b, hb⟩ : ∃ b, b = u - 9223372036854775808 := ⟨_, rfl⟩
    have e : of u = b := by unfold of; rw [if_neg h0, if_neg h1, hb]
    rw [e, ← hb]
    by_cases hn : 9218868437227405312 < b % 9223372036854775808
    · have : nan b = true := by unfold nan; exact decide_eq_true hn
      have hc : code b = 0 := by unfold code; rw [this, if_pos rfl]
      rw [hc]
      congr 1
      apply propext
      constructor <;> intro h <;> omega
    · have hnn : nan b = false := by unfold nan; exact decide_eq_false hn
      have hcc : code b = u := by
        unfold code
        rw [hnn, if_neg (by simp)]
        by_cases hz : b % 9223372036854775808 = 0
        · have hc : canon b = 0 := by unfold canon; rw [hnn, if_neg (by simp), if_pos hz]
          rw [hc, if_pos (by omega)]
          omega
        · have hc : canon b = b := by unfold canon; rw [hnn, if_neg (by simp), if_neg hz]
          rw [hc, if_pos (by omega)]
          omega
      rw [hcc]
      congr 1
      apply propext
      constructor <;> intro h <;> omega
theorem code_of_code (u : Nat) (h : isCode u = true) : code (of u) = u := of_decide_eq_true h
/-- a code's float is what was coded, in its one form -/
theorem of_code (b : Nat) (h : b < 18446744073709551616) : of (code b) = canon b := by
  unfold code
  cases hn : nan b with
  | true => rw [if_pos rfl]; unfold of canon; rw [if_pos rfl, hn, if_pos rfl]
  | false =>
    rw [if_neg (by simp)]
    have hcl := canon_lt b h
    have hne : canon b ≠ 18446744073709551615 := by
      unfold canon nan at *
      have := of_decide_eq_false hn
      rw [hn, if_neg (by simp)]
      split <;> omega
    by_cases hc : canon b < 9223372036854775808
    · rw [if_pos hc]; unfold of; rw [if_neg (by omega), if_neg (by omega)]; omega
    · rw [if_neg hc]; unfold of; rw [if_neg (by omega), if_pos (by omega)]; omega
theorem canon_canon (b : Nat) : canon (canon b) = canon b := by
  cases hn : nan b with
  | true => have : canon b = 9221120237041090561 := by unfold canon; rw [hn, if_pos rfl]
            rw [this]; decide
  | false =>
    by_cases hz : b % 9223372036854775808 = 0
    · have : canon b = 0 := by unfold canon; rw [hn, if_neg (by simp), if_pos hz]
      rw [this]; decide
    · have : canon b = b := by unfold canon; rw [hn, if_neg (by simp), if_neg hz]
      rw [this, this]
theorem code_canon (b : Nat) : code (canon b) = code b := by
  cases hn : nan b with
  | true =>
    have : canon b = 9221120237041090561 := by unfold canon; rw [hn, if_pos rfl]
    rw [this]; unfold code; rw [hn, if_pos rfl]; decide
  | false =>
    by_cases hz : b % 9223372036854775808 = 0
    · have e : canon b = 0 := by unfold canon; rw [hn, if_neg (by simp), if_pos hz]
      have e2 : code b = 9223372036854775808 := by unfold code; rw [hn, if_neg (by simp), e, if_pos (by decide)]
      rw [e, e2]; decide
    · have e : canon b = b := by unfold canon; rw [hn, if_neg (by simp), if_neg hz]
      rw [e]
theorem isCode_code (b : Nat) (h : b < 18446744073709551616) : isCode (code b) = true := by
  unfold isCode
  rw [of_code b h, code_canon]
  exact decide_eq_true rfl
theorem canon_of (u : Nat) (hu : u < 18446744073709551616) (h : isCode u = true) : canon (of u) = of u := by
  have e := of_code (of u) (of_lt u hu)
  rw [code_of_code u h] at e
  exact e.symm
end Flo

/-- two values and the world as it was -/
def RetTwo (w : World) (a b : Value) (e : Ending) (w' : World) : Prop := e = .returned (.tuple #[a, b]) ∧ w = w'
def RetEq (w : World) (a : Value) (e : Ending) (w' : World) : Prop := e = .returned a ∧ w = w'

def FromPost (u : Nat) (w : World) (e : Ending) (w' : World) : Prop := RetTwo w (.float .f64 (if Flo.isCode u = true then Flo.of u else 0)) (.bool (Flo.isCode u)) e w'
theorem FromPost.mk {u : Nat} {w : World} {e : Ending} {x : Nat} {c : Bool} (he : e = .returned (.tuple #[.float .f64 x, .bool c])) (hc : Flo.isCode u = c) (hx : x = if c = true then Flo.of u else 0) : FromPost u w e w := by
  subst hc hx
  exact ⟨he, rfl⟩

set_option maxRecDepth 100000 in
set_option maxHeartbeats 1600000 in
theorem from_any (u : Nat) (w : World) (hu : u < 18446744073709551616) : Calls Try.prog 66 #[.int .u64 (u : Nat)] w (FromPost u w) := by
  have hfb := frombits64
  have HU := Lib.hid hu
  clear hu
  by_cases h0 : u = 0
  · subst h0
    go_enter Try.func66, Try.ntmps66
    go_wp2_with fail
    refine (naN_any _).mono ?_
    rintro e w' ⟨rfl, rfl⟩
    go_wp2_with fail
    go_ret2
    exact FromPost.mk rfl (by decide) rfl
  · have h0' : ((u : Int) == 0) = false := by simp; omega
    have H0 := Lib.hid h0
    clear h0
    go_enter Try.func66, Try.ntmps66
    go_wp2_with fail
    · have h : (Flo.maskTop u != 0) = true := by assumption
      rw [Flo.maskTop_eq u HU.out] at h
      have hge : ¬ u < 9223372036854775808 := by
        intro hc
        unfold Flo.topBit at h
        rw [if_pos hc] at h; simp at h
      have eb : (Flo.dropTop u).toNat = Flo.of u := by
        rw [Flo.dropTop_eq u HU.out]
        unfold Flo.of
        rw [if_neg H0.out, if_neg hge]
        have := HU.out
        omega
      have EB := Lib.hid eb
      clear eb h hge
      rw [show (bits BinOp.andNot IntKind.u64 (u : Int) 9223372036854775808).toNat = Flo.of u from EB.out]
      refine (code_any (Flo.of u) _ (Flo.of_lt u HU.out)).mono ?_
      rintro e w' ⟨rfl, rfl⟩
      cases hcode : Flo.isCode u with
      | true =>
        rw [Flo.code_of_code u hcode]
        have HC := Lib.hid hcode
        clear hcode
        go_wp2_with fail
        go_ret2
        exact FromPost.mk rfl HC.out rfl
      | false =>
        obtain ⟨c, hc⟩ : ∃ c, c = Flo.code (Flo.of u) := ⟨_, rfl⟩
        have hne : ((c : Int) != (u : Int)) = true := by
          have : c ≠ u := fun e => by
            rw [hc] at e
            have := of_decide_eq_false hcode
            exact this e
          simp; omega
        rw [← hc]
        have HC := Lib.hid hcode
        clear hcode hc
        go_wp2_with fail
        go_ret2
        exact FromPost.mk rfl HC.out rfl
    · have h : (Flo.maskTop u != 0) = false := by assumption
      rw [Flo.maskTop_eq u HU.out] at h
      have hge : u < 9223372036854775808 := by
        by_cases hc : u < 9223372036854775808
        · exact hc
        · exfalso
          unfold Flo.topBit at h
          rw [if_neg hc] at h; simp at h
      have eb : (Flo.flip u).toNat = Flo.of u := by
        rw [Flo.flip_eq u HU.out]
        unfold Flo.of
        rw [if_neg H0.out, if_pos hge]
        rfl
      have EB := Lib.hid eb
      clear eb h hge
      rw [show (bits BinOp.xor IntKind.u64 IntKind.u64.max (u : Int)).toNat = Flo.of u from EB.out]
      refine (code_any (Flo.of u) _ (Flo.of_lt u HU.out)).mono ?_
      rintro e w' ⟨rfl, rfl⟩
      cases hcode : Flo.isCode u with
      | true =>
        rw [Flo.code_of_code u hcode]
        have HC := Lib.hid hcode
        clear hcode
        go_wp2_with fail
        go_ret2
        exact FromPost.mk rfl HC.out rfl
      | false =>
        obtain ⟨c, hc⟩ : ∃ c, c = Flo.code (Flo.of u) := ⟨_, rfl⟩
        have hne : ((c : Int) != (u : Int)) = true := by
          have : c ≠ u := fun e => by
            rw [hc] at e
            have := of_decide_eq_false hcode
            exact this e
          simp; omega
        rw [← hc]
        have HC := Lib.hid hcode
        clear hcode hc
        go_wp2_with fail
        go_ret2
        exact FromPost.mk rfl HC.out rfl

/-! ### the document's -/

theorem dec_iff {p q : Prop} [Decidable p] [Decidable q] (h : p ↔ q) : Ending.returned (.bool (decide p)) = .returned (.bool (decide q)) := by rw [decide_eq_decide.2 h]
theorem ret_bool {a b : Bool} (h : a = b) : Ending.returned (.bool a) = .returned (.bool b) := by rw [h]
theorem ret_float {a b : Nat} (h : a = b) : Ending.returned (.float .f64 a) = .returned (.float .f64 b) := by rw [h]
theorem sub_top (u : Nat) (h : u < 18446744073709551616) : IntKind.u64.wrap (18446744073709551615 - (u : Int)) = ((18446744073709551615 - u : Nat) : Int) := by
  rw [IntKind.wrap_u64]; omega
theorem sub_low (u : Nat) (h : u < 18446744073709551616) (h1 : ¬ u < 9223372036854775808) : IntKind.u64.wrap ((u : Int) - 9223372036854775808) = ((u - 9223372036854775808 : Nat) : Int) := by
  rw [IntKind.wrap_u64]; omega
theorem Flo.said_low {u : Nat} (h0 : ¬ u = 0) (h1 : u < 9223372036854775808) : Flo.said u = decide (9223372036854775808 < 18446744073709551615 - u ∧ 18446744073709551615 - u ≤ 18442240474082181120) := by unfold Flo.said; rw [if_neg h0, if_pos h1]
theorem Flo.said_high {u : Nat} (h0 : ¬ u = 0) (h1 : ¬ u < 9223372036854775808) : Flo.said u = decide (u - 9223372036854775808 ≤ 9218868437227405312) := by unfold Flo.said; rw [if_neg h0, if_neg h1]
theorem Flo.of_low {u : Nat} (h0 : ¬ u = 0) (h1 : u < 9223372036854775808) : Flo.of u = 18446744073709551615 - u := by unfold Flo.of; rw [if_neg h0, if_pos h1]
theorem Flo.of_high {u : Nat} (h0 : ¬ u = 0) (h1 : ¬ u < 9223372036854775808) : Flo.of u = u - 9223372036854775808 := by unfold Flo.of; rw [if_neg h0, if_neg h1]

set_option maxRecDepth 100000 in
set_option maxHeartbeats 1600000 in
theorem refIsCode_any (u : Nat) (w : World) (hu : u < 18446744073709551616) : Calls Try.prog 72 #[.int .u64 (u : Nat)] w (RetEq w (.bool (Flo.said u))) := by
  have HU := Lib.hid hu
  clear hu
  by_cases h0 : u = 0
  · subst h0
    go_enter Try.func72, Try.ntmps72
    go_wp2_with fail
    go_ret
    exact ⟨rfl, rfl⟩
  · have h0' : ((u : Int) == 0) = false := by simp; omega
    have H0 := Lib.hid h0
    obtain ⟨r, hr⟩ : ∃ r, r = Flo.said u := ⟨_, rfl⟩
    rw [← hr]
    have HR := Lib.hid hr
    clear h0 hr
    by_cases hlt : u < 9223372036854775808
    · have hlt' : decide ((9223372036854775808 : Int) ≤ (u : Int)) = false := by rw [decide_eq_false_iff_not]; omega
      have HLT := Lib.hid hlt
      clear hlt
      go_enter Try.func72, Try.ntmps72
      go_wp2_with fail
      · go_ret
        refine ⟨?_, rfl⟩
        have hx : (9223372036854775808 : Int) < IntKind.u64.wrap (18446744073709551615 - ↑u) := by assumption
        show Ending.returned (.bool (decide (IntKind.u64.wrap (18446744073709551615 - ↑u) ≤ 18442240474082181120))) = _
        rw [sub_top u HU.out] at hx
        rw [HR.out, Flo.said_low H0.out HLT.out]
        refine dec_iff ?_
        rw [sub_top u HU.out]
        constructor <;> intro h <;> omega
      · go_ret
        refine ⟨?_, rfl⟩
        have hx : IntKind.u64.wrap (18446744073709551615 - ↑u) ≤ (9223372036854775808 : Int) := by assumption
        show Ending.returned (.bool false) = _
        rw [sub_top u HU.out] at hx
        rw [HR.out, Flo.said_low H0.out HLT.out]
        refine ret_bool ?_
        symm
        rw [decide_eq_false_iff_not]
        omega
    · have hlt' : (9223372036854775808 : Int) ≤ (u : Int) := by omega
      have HLT := Lib.hid hlt
      clear hlt
      go_enter Try.func72, Try.ntmps72
      go_wp2_with fail
      go_ret
      refine ⟨?_, rfl⟩
      show Ending.returned (.bool (decide (IntKind.u64.wrap (↑u - 9223372036854775808) ≤ 9218868437227405312))) = _
      rw [HR.out, Flo.said_high H0.out HLT.out]
      refine dec_iff ?_
      rw [sub_low u HU.out HLT.out]
      constructor <;> intro h <;> omega
set_option maxRecDepth 100000 in
set_option maxHeartbeats 1600000 in
theorem refOf_any (u : Nat) (w : World) (hu : u < 18446744073709551616) : Calls Try.prog 73 #[.int .u64 (u : Nat)] w (RetEq w (.float .f64 (Flo.of u))) := by
  have hfb := frombits64
  have HU := Lib.hid hu
  clear hu
  by_cases h0 : u = 0
  · subst h0
    go_enter Try.func73, Try.ntmps73
    go_wp2_with fail
    go_ret
    exact ⟨rfl, rfl⟩
  · have h0' : ((u : Int) == 0) = false := by simp; omega
    have H0 := Lib.hid h0
    obtain ⟨r, hr⟩ : ∃ r, r = Flo.of u := ⟨_, rfl⟩
    rw [← hr]
    have HR := Lib.hid hr
    clear h0 hr
    by_cases hlt : u < 9223372036854775808
    · have hlt' : decide ((9223372036854775808 : Int) ≤ (u : Int)) = false := by rw [decide_eq_false_iff_not]; omega
      have HLT := Lib.hid hlt
      clear hlt
      go_enter Try.func73, Try.ntmps73
      go_wp2_with fail
      go_ret
      refine ⟨?_, rfl⟩
      show Ending.returned (.float .f64 (IntKind.u64.wrap (18446744073709551615 - ↑u)).toNat) = _
      refine ret_float ?_
      rw [sub_top u HU.out, HR.out, Flo.of_low H0.out HLT.out, Int.toNat_natCast]
    · have hlt' : (9223372036854775808 : Int) ≤ (u : Int) := by omega
      have HLT := Lib.hid hlt
      clear hlt
      go_enter Try.func73, Try.ntmps73
      go_wp2_with fail
      go_ret
      refine ⟨?_, rfl⟩
      show Ending.returned (.float .f64 (IntKind.u64.wrap (↑u - 9223372036854775808)).toNat) = _
      refine ret_float ?_
      rw [sub_low u HU.out HLT.out, HR.out, Flo.of_high H0.out HLT.out, Int.toNat_natCast]

def same1 (a b : Nat) : Bool := decide (Flo.canon a = Flo.canon b)
theorem nat_beq (a b : Nat) : (((a : Nat) : Int) == ((b : Nat) : Int)) = decide (a = b) := by
  by_cases h : a = b
  · subst h; simp
  · simp [h]; omega

set_option maxHeartbeats 800000 in
theorem refSame1_any (a b : Nat) (w : World) (ha : a < 18446744073709551616) (hb : b < 18446744073709551616) : Calls Try.prog 64 #[.float .f64 a, .float .f64 b] w (RetEq w (.bool (same1 a b))) := by
  have HA := Lib.hid ha
  have HB := Lib.hid hb
  clear ha hb
  obtain ⟨r, hr⟩ : ∃ r, r = same1 a b := ⟨_, rfl⟩
  rw [← hr]
  have HR := Lib.hid hr
  clear hr
  go_enter Try.func64, Try.ntmps64
  go_wp2_with fail
  refine (refbits_any a _ HA.out).mono ?_
  rintro e w' ⟨rfl, rfl⟩
  obtain ⟨c, hc⟩ : ∃ c, c = Flo.canon a := ⟨_, rfl⟩
  rw [← hc]
  have HC := Lib.hid hc
  clear hc
  go_wp2_with fail
  refine (refbits_any b _ HB.out).mono ?_
  rintro e w' ⟨rfl, rfl⟩
  obtain ⟨d, hd⟩ : ∃ d, d = Flo.canon b := ⟨_, rfl⟩
  rw [← hd]
  have HD := Lib.hid hd
  clear hd
  go_wp2_with fail
  go_ret
  refine ⟨?_, rfl⟩
  show Ending.returned (.bool ((c : Int) == (d : Int))) = _
  rw [nat_beq, HC.out, HD.out, HR.out]
  rfl

set_option maxHeartbeats 800000 in
theorem refForm_any (a : Nat) (w : World) (ha : a < 18446744073709551616) : Calls Try.prog 41 #[.float .f64 a] w (RetEq w (.bool (decide (Flo.canon a = a)))) := by
  have hbits := bits64
  have HA := Lib.hid ha
  clear ha
  obtain ⟨r, hr⟩ : ∃ r, r = decide (Flo.canon a = a) := ⟨_, rfl⟩
  rw [← hr]
  have HR := Lib.hid hr
  clear hr
  go_enter Try.func41, Try.ntmps41
  go_wp2_with fail
  refine (refbits_any a _ HA.out).mono ?_
  rintro e w' ⟨rfl, rfl⟩
  obtain ⟨c, hc⟩ : ∃ c, c = Flo.canon a := ⟨_, rfl⟩
  rw [← hc]
  have HC := Lib.hid hc
  clear hc
  go_wp2_with fail
  go_ret
  refine ⟨?_, rfl⟩
  show Ending.returned (.bool ((c : Int) == (a : Int))) = _
  rw [nat_beq, HC.out, HR.out]
end Go.Proofs.Ytdpajcamgipgkaa
