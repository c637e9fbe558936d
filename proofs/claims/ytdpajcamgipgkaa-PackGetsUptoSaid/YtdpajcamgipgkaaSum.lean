/- The two sums: the code's and the document's are both the plain one. -/
import Derived.Test.YtdpajcamgipgkaaBase
namespace Go.Proofs.Ytdpajcamgipgkaa
open Go.RowKit

theorem sum_first (n c : Nat) (hn : n < 4294967296) (hc : c < 256) : bits .xor .u32 (n : Int) (c : Int) = ((n ^^^ c : Nat) : Int) := by
  have hx : n ^^^ c < 2 ^ 32 := Nat.xor_lt_two_pow hn (by omega)
  show IntKind.u32.wrap ((BitVec.ofInt 32 (n : Int) ^^^ BitVec.ofInt 32 (c : Int)).toNat : Int) = _
  rw [BitVec.toNat_xor, BitVec.ofInt_natCast, BitVec.ofInt_natCast, BitVec.toNat_ofNat, BitVec.toNat_ofNat, Nat.mod_eq_of_lt hn, Nat.mod_eq_of_lt (by omega), IntKind.wrap_u32]
  omega

theorem not32 (n : Nat) (hn : n < 4294967296) : bits .xor .u32 IntKind.u32.max (n : Int) = ((4294967295 - n : Nat) : Int) := by
  have h1 : (BitVec.ofInt 32 (n : Int)) = BitVec.ofNat 32 n := BitVec.ofInt_natCast _ _
  have h2 : BitVec.ofInt 32 IntKind.u32.max = BitVec.allOnes 32 := by decide
  show IntKind.u32.wrap ((BitVec.ofInt 32 IntKind.u32.max ^^^ BitVec.ofInt 32 (n : Int)).toNat : Int) = _
  rw [h1, h2, BitVec.allOnes_xor, BitVec.toNat_not, BitVec.toNat_ofNat, Nat.mod_eq_of_lt hn, IntKind.wrap_u32]
  omega

set_option maxHeartbeats 800000 in
theorem sum_any (a : Option Addr) (len cap : Nat) (bs : List UInt8) (w : World) (hr : Row8 w a len bs) (hl : len ≤ maxLen) :
    Calls Try.prog 16 #[.slice a len cap] w fun e w' => e = .returned (.int .u32 (Crc.crc bs)) ∧ w = w' := by
  unfold maxLen at hl
  have HR := Lib.hid hr
  clear hr
  go_enter Try.func16, Try.ntmps16
  go_wp2
  go_loop [3, 8] (fun s i => ∃ (k : Nat) (n : Nat), k ≤ len ∧ i = .int .i64 k ∧ n < 4294967296 ∧ Hid (Crc.run 4294967295 (bs.take k) = n) ∧ s = .int .u32 n) (fun _ i => len - (intOf i).toNat)
  case atStart => exact ⟨0, 4294967295, Nat.zero_le _, rfl, by omega, rfl, rfl⟩
  case round =>
    obtain ⟨k, n, hk, rfl, hn, hrun, rfl⟩ := hrel
    by_cases hlt : k < len
    · obtain ⟨b, off, ha, c, hc, hcb, hcell⟩ := HR.out.at k hlt
      subst ha
      have hm : (c : Int) % 4294967296 = c := by omega
      have hx := sum_first n c hn hc
      go_wp2
      go_loop [3, 16] (fun s i => ∃ (j : Nat) (m : Nat), j ≤ 8 ∧ i = .int .i64 j ∧ m < 4294967296 ∧ Hid (Crc.stpN j (n ^^^ c) = m) ∧ s = .int .u32 m) (fun _ i => 8 - (intOf i).toNat)
      case atStart => exact ⟨0, n ^^^ c, by omega, rfl, Crc.xor_lt32 hn (by omega), rfl, rfl⟩
      case round =>
        obtain ⟨j, m, hj, rfl, hm', hst, rfl⟩ := hrel
        by_cases hlt' : j < 8
        · go_wp2
          go_round
          case rel => exact ⟨j + 1, Crc.stp m, by omega, by go_num, Crc.stp_lt hm', congrArg Crc.stp hst, val_int (Crc.code_step m hm')⟩
          case measure => simp [intOf]; omega
        · go_wp2
          go_round
          case rel =>
            have hj8 : j = 8 := by omega
            subst hj8
            refine ⟨k + 1, m, by omega, by go_num, hm', ?_, rfl⟩
            show _ = _
            rw [Crc.run_take bs _ k (by rw [HR.out.1]; exact hlt), hrun.out, hcb.out]
            exact hst
          case measure => simp [intOf]; omega
    · go_wp2
      go_ret
      have hke : k = len := by omega
      subst hke
      refine ⟨ret_int ?_, rfl⟩
      rw [not32 n hn]
      unfold Crc.crc
      have := hrun.out
      rw [List.take_of_length_le (by rw [HR.out.1]; omega)] at this
      rw [this]

theorem bne_nat (m c j : Nat) : ((m : Int) % 2 != (c : Int) / 2 ^ j % 2) = decide (m % 2 ≠ c / 2 ^ j % 2) := by
  have e : (c : Int) / 2 ^ j = ((c / 2 ^ j : Nat) : Int) := by simp
  rw [e, Bool.eq_iff_iff, bne_iff_ne, decide_eq_true_iff]
  omega

theorem ref_yes (m c j n : Nat) (hm : m < 4294967296) (hst : Crc.stpN j (n ^^^ c) ^^^ c / 2 ^ j = m) (h : ((m : Int) % 2 != (c : Int) / 2 ^ j % 2) = true) :
    m / 2 ^^^ Crc.poly < 4294967296 ∧ Hid (Crc.stpN (j + 1) (n ^^^ c) ^^^ c / 2 ^ (j + 1) = m / 2 ^^^ Crc.poly) ∧ bits .xor .u32 ((m : Int) / 2) 2197175160 = ((m / 2 ^^^ Crc.poly : Nat) : Int) := by
  rw [bne_nat, decide_eq_true_iff] at h
  have hx := Crc.xor_lt32 (a := m / 2) (b := Crc.poly) (by omega) (by unfold Crc.poly; omega)
  refine ⟨hx, ?_, ?_⟩
  · show _ = _
    rw [← Crc.ref_next, hst, if_pos h]
  · have e : (m : Int) / 2 = ((m / 2 : Nat) : Int) := by omega
    rw [e]
    have hp : Crc.poly < 2 ^ 32 := by unfold Crc.poly; omega
    show IntKind.u32.wrap ((BitVec.ofInt 32 ((m / 2 : Nat) : Int) ^^^ BitVec.ofInt 32 ((Crc.poly : Nat) : Int)).toNat : Int) = _
    rw [BitVec.toNat_xor, BitVec.ofInt_natCast, BitVec.ofInt_natCast, BitVec.toNat_ofNat, BitVec.toNat_ofNat, Nat.mod_eq_of_lt (by omega), Nat.mod_eq_of_lt hp, IntKind.wrap_u32]
    omega

theorem ref_no (m c j n : Nat) (hst : Crc.stpN j (n ^^^ c) ^^^ c / 2 ^ j = m) (h : ((m : Int) % 2 != (c : Int) / 2 ^ j % 2) = false) :
    Hid (Crc.stpN (j + 1) (n ^^^ c) ^^^ c / 2 ^ (j + 1) = m / 2) := by
  rw [bne_nat, decide_eq_false_iff_not] at h
  show _ = _
  rw [← Crc.ref_next, hst, if_neg h, Nat.xor_zero]

set_option maxHeartbeats 800000 in
theorem refsum_any (a : Option Addr) (len cap : Nat) (bs : List UInt8) (w : World) (hr : Row8 w a len bs) (hl : len ≤ maxLen) :
    Calls Try.prog 17 #[.slice a len cap] w fun e w' => e = .returned (.int .u32 (Crc.crc bs)) ∧ w = w' := by
  unfold maxLen at hl
  have HR := Lib.hid hr
  clear hr
  go_enter Try.func17, Try.ntmps17
  go_wp2
  go_loop [3, 4] (fun s i => ∃ (k : Nat) (n : Nat), k ≤ len ∧ i = .int .i64 k ∧ n < 4294967296 ∧ Hid (Crc.run 4294967295 (bs.take k) = n) ∧ s = .int .u32 n) (fun _ i => len - (intOf i).toNat)
  case atStart => exact ⟨0, 4294967295, Nat.zero_le _, rfl, by omega, rfl, rfl⟩
  case round =>
    obtain ⟨k, n, hk, rfl, hn, hrun, rfl⟩ := hrel
    by_cases hlt : k < len
    · obtain ⟨b, off, ha, c, hc, hcb, hcell⟩ := HR.out.at k hlt
      subst ha
      go_wp2
      go_loop [3, 5] (fun s i => ∃ (j : Nat) (m : Nat), j ≤ 8 ∧ i = .int .i64 j ∧ m < 4294967296 ∧ Hid (Crc.stpN j (n ^^^ c) ^^^ c / 2 ^ j = m) ∧ s = .int .u32 m) (fun _ i => 8 - (intOf i).toNat)
      case atStart => exact ⟨0, n, by omega, rfl, hn, Crc.ref_start n c, rfl⟩
      case round =>
        obtain ⟨j, m, hj, rfl, hm', hst, rfl⟩ := hrel
        by_cases hlt' : j < 8
        · go_wp2
          · have hbit : ((m : Int) % 2 != (c : Int) / 2 ^ j % 2) = true := by assumption
            have F := ref_yes m c j n hm' hst.out hbit
            go_round
            case rel => exact ⟨j + 1, _, by omega, by go_num, F.1, F.2.1, val_int F.2.2⟩
            case measure => simp [intOf]; omega
          · have hbit : ((m : Int) % 2 != (c : Int) / 2 ^ j % 2) = false := by assumption
            have F := ref_no m c j n hst.out hbit
            go_round
            case rel => exact ⟨j + 1, m / 2, by omega, by go_num, by omega, F, by simp⟩
            case measure => simp [intOf]; omega
        · go_wp2
          go_round
          case rel =>
            have hj8 : j = 8 := by omega
            subst hj8
            refine ⟨k + 1, m, by omega, by go_num, hm', ?_, rfl⟩
            show _ = _
            rw [Crc.run_take bs _ k (by rw [HR.out.1]; exact hlt), hrun.out, hcb.out, ← Crc.ref_end n c hc]
            exact hst
          case measure => simp [intOf]; omega
    · go_wp2
      go_ret
      have hke : k = len := by omega
      subst hke
      refine ⟨ret_int ?_, rfl⟩
      unfold Crc.crc
      have := hrun.out
      rw [List.take_of_length_le (by rw [HR.out.1]; omega)] at this
      rw [this]
      omega

end Go.Proofs.Ytdpajcamgipgkaa
