/- PackBits: of bytes of which one bit is turned the sum is another one; turned back it is the same: the walk. -/
import Derived.Test.YtdpajcamgipgkaaSums
namespace Go.Proofs.Ytdpajcamgipgkaa
open Go.RowKit

theorem and_mask (x : Int) (k : Nat) (hk : k ≤ 62) : bits .and .i64 x ((2 ^ k - 1 : Nat) : Int) = x % 2 ^ k := by
  have hp : 2 ^ k ≤ 2 ^ 62 := Nat.pow_le_pow_right (by decide) hk
  have hpos : 0 < 2 ^ k := Nat.two_pow_pos k
  show IntKind.i64.wrap ((BitVec.ofInt 64 x &&& BitVec.ofInt 64 ((2 ^ k - 1 : Nat) : Int)).toNat : Int) = _
  rw [BitVec.toNat_and, BitVec.ofInt_natCast, BitVec.toNat_ofNat, Nat.mod_eq_of_lt (a := 2 ^ k - 1) (by omega), Nat.and_two_pow_sub_one_eq_mod, BitVec.toNat_ofInt, IntKind.wrap_i64]
  have hd : ((2 ^ k : Nat) : Int) ∣ ((2 ^ 64 : Nat) : Int) := by
    refine Int.natCast_dvd_natCast.2 ⟨2 ^ (64 - k), ?_⟩
    rw [← Nat.pow_add]
    congr 1
    omega
  have h1 : ((x % ((2 ^ 64 : Nat) : Int)).toNat : Int) = x % ((2 ^ 64 : Nat) : Int) := Int.toNat_of_nonneg (Int.emod_nonneg _ (by decide))
  have h2 : (((x % ((2 ^ 64 : Nat) : Int)).toNat % 2 ^ k : Nat) : Int) = x % ((2 ^ k : Nat) : Int) := by
    rw [Int.natCast_emod, h1, Int.emod_emod_of_dvd _ hd]
  rw [h2]
  have h3 : 0 ≤ x % ((2 ^ k : Nat) : Int) := Int.emod_nonneg _ (by omega)
  have h4 : x % ((2 ^ k : Nat) : Int) < ((2 ^ k : Nat) : Int) := Int.emod_lt_of_pos _ (by omega)
  have h5 : ((2 ^ k : Nat) : Int) = 2 ^ k := by simp
  rw [← h5]
  omega

theorem flip8 (c j : Nat) (hc : c < 256) (hj : j < 8) : ∃ d : UInt8, bits .xor .u8 (c : Int) (2 ^ j % 256) = ((d.toNat : Nat) : Int) ∧ d.toNat ≠ c := by
  have hp : 2 ^ j < 256 := Nat.pow_lt_pow_right (m := j) (n := 8) (by decide) hj
  have hpos : 0 < 2 ^ j := Nat.two_pow_pos j
  have hx : c ^^^ 2 ^ j < 2 ^ 8 := Nat.xor_lt_two_pow hc hp
  refine ⟨UInt8.ofNat (c ^^^ 2 ^ j), ?_, ?_⟩
  · have e : (2 : Int) ^ j % 256 = ((2 ^ j : Nat) : Int) := by
      have : ((2 ^ j : Nat) : Int) = (2 : Int) ^ j := by simp
      omega
    rw [e, UInt8.toNat_ofNat']
    show IntKind.u8.wrap ((BitVec.ofInt 8 (c : Int) ^^^ BitVec.ofInt 8 ((2 ^ j : Nat) : Int)).toNat : Int) = _
    rw [BitVec.toNat_xor, BitVec.ofInt_natCast, BitVec.ofInt_natCast, BitVec.toNat_ofNat, BitVec.toNat_ofNat, Nat.mod_eq_of_lt hc, Nat.mod_eq_of_lt hp, IntKind.wrap_u8]
    omega
  · rw [UInt8.toNat_ofNat']
    intro h
    have h2 : c ^^^ 2 ^ j = c := by omega
    have := congrArg (c ^^^ ·) h2
    simp [← Nat.xor_assoc] at this
theorem masked7 (x : Int) : ∃ k : Nat, bits .and .i64 x 7 = (k : Int) ∧ k < 8 := by
  have h := and_mask x 3 (by decide)
  refine ⟨(x % 8).toNat, ?_, by omega⟩
  have e : ((2 ^ 3 - 1 : Nat) : Int) = 7 := by decide
  rw [e] at h
  rw [h]
  have : (2 : Int) ^ 3 = 8 := by decide
  rw [this]
  omega
theorem masked (x : Int) : ∃ k : Nat, bits .and .i64 x 8191 = (k : Int) ∧ k < 8192 := by
  have h := and_mask x 13 (by decide)
  refine ⟨(x % 8192).toNat, ?_, by omega⟩
  have e : ((2 ^ 13 - 1 : Nat) : Int) = 8191 := by decide
  rw [e] at h
  rw [h]
  have : (2 : Int) ^ 13 = 8192 := by decide
  rw [this]
  omega

set_option maxRecDepth 100000 in
set_option maxHeartbeats 800000 in
theorem packBits_walk (a : Option Addr) (len cap : Nat) (bs : List UInt8) (at_ bit : Int) (w : World) (hr : Row8 w a len bs) (hlc : len ≤ cap) (hcm : cap ≤ maxLen) (hnil : a = none → cap = 0) (_wa : (Lit.int .i64 at_).wf = true) (_wb : (Lit.int .i64 bit).wf = true) :
    Calls Try.prog 4 #[.slice a len cap, .int .i64 at_, .int .i64 bit] w fun e w' => e = .returned (.bool true) ∧ Below w.heap.size w w' := by
  have HR := Lib.hid hr
  clear hr
  have hl : len ≤ maxLen := Nat.le_trans hlc hcm
  have kc := fun (w : World) (C : Array Value) (n c : Nat) => Lib.run_convert_bytes_const (P := Try.prog) w 22 5 C n c Try.underlying22 Try.underlying5
  by_cases h0 : len = 0
  · have h0' : ((len : Int) == 0) = true := by simp; omega
    go_enter Try.func4, Try.ntmps4
    go_wp2_with fail
    refine (sum_any (some ⟨w.heap.size, 0, none⟩) 9 9 [49, 50, 51, 52, 53, 54, 55, 56, 57] _ (Row8.new w _ _ _ _ 9 rfl rfl) (by decide)).mono ?_
    rintro e w' ⟨rfl, rfl⟩
    rw [crc_123]
    go_wp2_with fail
    go_ret
    exact ⟨rfl, (Below.refl _ _).alloc (Nat.le_refl _) _⟩
  by_cases h5 : len ≤ 5000
  · have h0' : ((len : Int) == 0) = false := by simp; omega
    have h5' : decide ((5000 : Int) < len) = false := by simp; omega
    obtain ⟨k, hk, hk8⟩ := masked at_
    obtain ⟨j, hj, hj8⟩ := masked7 bit
    have hkl : k % len < len := Nat.mod_lt _ (by omega)
    have hkl' : (k : Int) % (len : Int) < len := by omega
    have hkl0 : 0 ≤ (k : Int) % (len : Int) := by omega
    go_enter Try.func4, Try.ntmps4
    go_wp2_with fail
    refine (sum_any (some ⟨w.heap.size, 0, none⟩) 9 9 [49, 50, 51, 52, 53, 54, 55, 56, 57] _ (Row8.new w _ _ _ _ 9 rfl rfl) (by decide)).mono ?_
    rintro e w' ⟨rfl, rfl⟩
    rw [crc_123]
    go_wp2_with fail
    refine (sum_any a len cap bs _ (HR.out.alloc _) hl).mono ?_
    rintro e w' ⟨rfl, rfl⟩
    go_wp2_with (at_builtin; refine wpList_append8 rfl (.tmp 24) (.tmp 25) rfl w.heap.size (some ⟨w.heap.size + 1, 0, none⟩) 0 0 [] rfl (Own8.fresh _ _ _ _ _ 0 (by simp) (by simp) (by decide) rfl rfl) a len cap bs rfl ((HR.out.alloc _).alloc _) hnil (by omega) (by simp; omega) len (by omega) ?_; intro ao' cap' w1 hown hg hat; rw [List.nil_append] at hown; obtain ⟨g, rfl, hbg, hgl⟩ := hown.addr (by omega); obtain ⟨c, hc, hcb, hcell, hfr⟩ := hown.at (k % len) hkl; obtain ⟨b, off, ha, c', hc', hcb', hcell'⟩ := HR.out.at (k % len) hkl; subst ha)
    obtain ⟨d, hd, hdc⟩ := flip8 c j hc hj8
    rw [hd]
    clear hd
    have hst := hown.store (k % len) d
    have hb1 : Below w.heap.size w w1 := (((Below.refl _ _).alloc (Nat.le_refl _) _).alloc (by simp) _).grown hg (by simp; omega) (fun k hk => by simp [Value.ownBlock] at hk; omega)
    have hlen : bs.length = len := HR.out.1
    have hcc : c' = c := hcb'.out.symm.trans hcb.out
    subst hcc
    have hne : ((Crc.crc (bs.set (k % len) d) : Nat) : Int) ≠ (Crc.crc bs : Nat) := fun e => by
      have hi : k % len < bs.length := by omega
      have := Crc.crc_set bs (k % len) hi d (by omega)
      have h2 := hcb.out
      rw [List.getD_eq_getElem?_getD, List.getElem?_eq_getElem hi] at h2
      exact hdc (by rw [this]; exact h2)
    have hne' : (((Crc.crc (bs.set (k % len) d) : Nat) : Int) == (Crc.crc bs : Nat)) = false := by simpa using hne
    refine (sum_any (some ⟨g, 0, none⟩) len cap' _ _ hst.row hl).mono ?_
    rintro e w' ⟨rfl, rfl⟩
    have hcell2 : (w1.setCell ⟨g, k % len, none⟩ (.int .u8 (d.toNat : Nat))).cell? ⟨b, off + k % len, none⟩ = some (.int .u8 (c' : Int)) := by
      have hbl := World.block_lt_of_cell? w ⟨b, off + k % len, none⟩ hcell'
      have hbl' : b < w.heap.size := hbl
      rw [World.cell?_setCell_other _ _ _ _ (by intro e; injection e; omega), hb1.cell hbl]
      exact hcell'
    have hi : k % len < bs.length := by omega
    have hback : (bs.set (k % len) d).set (k % len) (bs[k % len]'hi) = bs := by
      rw [List.set_set]
      exact List.set_getElem_self hi
    have hbk : c' = (bs[k % len]'hi).toNat := by
      have h2 := hcb.out
      rw [List.getD_eq_getElem?_getD, List.getElem?_eq_getElem hi] at h2
      exact h2.symm
    have hst2 := hst.store (k % len) (bs[k % len]'hi)
    rw [hback, ← hbk] at hst2
    have HB := Lib.hid hbk
    have HK := Lib.hid hback
    clear hbk hback hne
    go_wp2_with fail
    refine (sum_any (some ⟨g, 0, none⟩) len cap' _ _ hst2.row hl).mono ?_
    rintro e w' ⟨rfl, rfl⟩
    go_wp2
    go_ret
    exact ⟨rfl, (hb1.setCell hbg _).setCell hbg _⟩
  · have h0' : ((len : Int) == 0) = false := by simp; omega
    have h5' : decide ((5000 : Int) < len) = true := by simp; omega
    go_enter Try.func4, Try.ntmps4
    go_wp2_with fail
    refine (sum_any (some ⟨w.heap.size, 0, none⟩) 9 9 [49, 50, 51, 52, 53, 54, 55, 56, 57] _ (Row8.new w _ _ _ _ 9 rfl rfl) (by decide)).mono ?_
    rintro e w' ⟨rfl, rfl⟩
    rw [crc_123]
    go_wp2_with fail
    go_ret
    exact ⟨rfl, (Below.refl _ _).alloc (Nat.le_refl _) _⟩

end Go.Proofs.Ytdpajcamgipgkaa
