/- Sums and frames, the code's and the document's (out of the texts of pack). -/
import Derived.Test.YtcejamblndilbaaRdr
import Derived.Test.YtcejamblndilbaaLow
import Derived.Test.YtcejamblndilbaaFr
import Derived.OneCell
import Derived.Deep.QuietTactic
import Derived.BigQuiet
import Derived.Deep.Draws
import Derived.Lib.SlBytesConst
namespace Go.Proofs.Ytcejamblndilbaa
open Go.RowKit

/-- .. and a number -/
def RetBytesCode (w : World) (n : Nat) (bs : List UInt8) (code : Nat) (e : Ending) (w' : World) : Prop :=
  ∃ ao cap, e = .returned (.tuple #[.slice ao n cap, .int .i64 (code : Nat)]) ∧ Own8 w' w.heap.size ao n cap bs ∧ Below w.heap.size w w'
/-- .. and two numbers -/
def RetBytesCode2 (w : World) (n : Nat) (bs : List UInt8) (k code : Nat) (e : Ending) (w' : World) : Prop :=
  ∃ ao cap, e = .returned (.tuple #[.slice ao n cap, .int .i64 (k : Nat), .int .i64 (code : Nat)]) ∧ Own8 w' w.heap.size ao n cap bs ∧ Below w.heap.size w w'
theorem byte8 (n : Nat) : (((UInt8.ofNat (n % 256)).toNat : Nat) : Int) = (n : Int) % 256 := by
  rw [UInt8.toNat_ofNat']
  omega
theorem own_fresh4 (w : World) (c0 c1 c2 c3 : Value) (bs : List UInt8) (h : #[c0, c1, c2, c3].toList = cells8 bs) (hl : bs.length = 4) :
    Own8 (w.alloc (.cells #[c0, c1, c2, c3] 5)) w.heap.size (some ⟨w.heap.size, 0, none⟩) 4 4 bs := Own8.made w _ _ bs 4 (Nat.le_refl _) (by decide) hl h
theorem cells_word (u : Nat) : cells8 (Fr.word u) = [.int .u8 ((u : Int) % 256), .int .u8 ((u : Int) / 256 % 256), .int .u8 ((u : Int) / 65536 % 256), .int .u8 ((u : Int) / 16777216 % 256)] := by
  simp only [cells8, Fr.word, List.map_cons, List.map_nil, byte8]
  simp
set_option maxRecDepth 100000 in
set_option maxHeartbeats 800000 in
theorem word_any (u : Nat) (w : World) (hu : u < 4294967296) : Calls Try.prog 65 #[.int .u32 (u : Int)] w (RetBytes w 4 (Fr.word u)) := by
  go_enter Try.func65, Try.ntmps65
  go_wp2
  go_ret
  refine ⟨_, _, rfl, own_fresh4 _ _ _ _ _ _ ?_ rfl, (Below.refl _ _).alloc (Nat.le_refl _) _⟩
  rw [cells_word, show (u : Int) / 16777216 % 256 = (u : Int) / 16777216 from by omega]
set_option maxRecDepth 100000 in
set_option maxHeartbeats 800000 in
theorem refword_any (u : Nat) (w : World) (hu : u < 4294967296) : Calls Try.prog 68 #[.int .u32 (u : Int)] w (RetBytes w 4 (Fr.word u)) := by
  go_enter Try.func68, Try.ntmps68
  go_wp2
  go_ret
  refine ⟨_, _, rfl, own_fresh4 _ _ _ _ _ _ ?_ rfl, (Below.refl _ _).alloc (Nat.le_refl _) _⟩
  rw [cells_word, show (u : Int) / 16777216 % 256 = (u : Int) / 16777216 from by omega]
theorem or_join (a b k : Nat) (ha : a < 2 ^ k) (hb : a + b * 2 ^ k < 4294967296) : bits .or .u32 (a : Int) ((b * 2 ^ k : Nat) : Int) = ((a + b * 2 ^ k : Nat) : Int) := by
  have h1 : a < 2 ^ 32 := by omega
  have h2 : b * 2 ^ k < 2 ^ 32 := by omega
  show IntKind.u32.wrap ((BitVec.ofInt 32 (a : Int) ||| BitVec.ofInt 32 ((b * 2 ^ k : Nat) : Int)).toNat : Int) = _
  rw [BitVec.toNat_or, BitVec.ofInt_natCast, BitVec.ofInt_natCast, BitVec.toNat_ofNat, BitVec.toNat_ofNat, Nat.mod_eq_of_lt h1, Nat.mod_eq_of_lt h2, Nat.or_comm, Nat.mul_comm, ← Nat.two_pow_add_eq_or_of_lt ha, IntKind.wrap_u32]
  have h3 : 2 ^ k * b = b * 2 ^ k := Nat.mul_comm _ _
  omega
theorem or4 (c0 c1 c2 c3 : Nat) (h0 : c0 < 256) (h1 : c1 < 256) (h2 : c2 < 256) (h3 : c3 < 256) :
    bits .or .u32 (bits .or .u32 (bits .or .u32 (c0 : Int) ((c1 : Int) * 256)) ((c2 : Int) * 65536)) ((c3 : Int) * 16777216) = ((c0 + c1 * 256 + c2 * 65536 + c3 * 16777216 : Nat) : Int) := by
  have a1 := or_join c0 c1 8 (by omega) (by omega)
  have a2 := or_join (c0 + c1 * 256) c2 16 (by omega) (by omega)
  have a3 := or_join (c0 + c1 * 256 + c2 * 65536) c3 24 (by omega) (by omega)
  have e1 : (c1 : Int) * 256 = ((c1 * 2 ^ 8 : Nat) : Int) := by omega
  have e2 : (c2 : Int) * 65536 = ((c2 * 2 ^ 16 : Nat) : Int) := by omega
  have e3 : (c3 : Int) * 16777216 = ((c3 * 2 ^ 24 : Nat) : Int) := by omega
  rw [e1, e2, e3, a1]
  exact (congrArg (fun z => bits .or .u32 z ((c3 * 2 ^ 24 : Nat) : Int)) a2).trans a3
set_option maxRecDepth 100000 in
set_option maxHeartbeats 800000 in
theorem unword_any (a : Option Addr) (len cap : Nat) (bs : List UInt8) (w : World) (hr : Row8 w a len bs) (h4 : 4 ≤ len) (hl : len ≤ maxLen) :
    Calls Try.prog 79 #[.slice a len cap] w (RetQuiet w (.int .u32 (Fr.unword bs : Nat))) := by
  unfold maxLen at hl
  obtain ⟨b, off, rfl, c0, h0, e0, k0⟩ := hr.at 0 (by omega)
  obtain ⟨b1, off1, ha1, c1, h1, e1, k1⟩ := hr.at 1 (by omega)
  obtain ⟨b2, off2, ha2, c2, h2, e2, k2⟩ := hr.at 2 (by omega)
  obtain ⟨b3, off3, ha3, c3, h3, e3, k3⟩ := hr.at 3 (by omega)
  simp only [Option.some.injEq, Addr.mk.injEq, and_true] at ha1 ha2 ha3
  obtain ⟨rfl, rfl⟩ := ha1
  obtain ⟨rfl, rfl⟩ := ha2
  obtain ⟨rfl, rfl⟩ := ha3
  rw [Nat.add_zero] at k0
  clear hr
  have l0 : (0 : Int) < (len : Int) := by omega
  have l1 : (1 : Int) < (len : Int) := by omega
  have l2 : (2 : Int) < (len : Int) := by omega
  have l3 : (3 : Int) < (len : Int) := by omega
  go_enter Try.func79, Try.ntmps79
  go_wp2
  go_quiet (fail)
  go_wp2
  go_ret
  refine ⟨ret_int ?_, _, rfl⟩
  have hu : Fr.unword bs = c0 + c1 * 256 + c2 * 65536 + c3 * 16777216 := by
    unfold Fr.unword Fr.byte
    rw [e0.out, e1.out, e2.out, e3.out]
  rw [hu]
  exact or4 c0 c1 c2 c3 h0 h1 h2 h3
set_option maxRecDepth 100000 in
set_option maxHeartbeats 800000 in
theorem refunword_any (a : Option Addr) (len cap : Nat) (bs : List UInt8) (w : World) (hr : Row8 w a len bs) (h4 : 4 ≤ len) (hl : len ≤ maxLen) :
    Calls Try.prog 87 #[.slice a len cap] w (RetQuiet w (.int .u32 (Fr.unword bs : Nat))) := by
  unfold maxLen at hl
  obtain ⟨b, off, rfl, c0, h0, e0, k0⟩ := hr.at 0 (by omega)
  obtain ⟨b1, off1, ha1, c1, h1, e1, k1⟩ := hr.at 1 (by omega)
  obtain ⟨b2, off2, ha2, c2, h2, e2, k2⟩ := hr.at 2 (by omega)
  obtain ⟨b3, off3, ha3, c3, h3, e3, k3⟩ := hr.at 3 (by omega)
  simp only [Option.some.injEq, Addr.mk.injEq, and_true] at ha1 ha2 ha3
  obtain ⟨rfl, rfl⟩ := ha1
  obtain ⟨rfl, rfl⟩ := ha2
  obtain ⟨rfl, rfl⟩ := ha3
  rw [Nat.add_zero] at k0
  clear hr
  have l0 : (0 : Int) < (len : Int) := by omega
  have l1 : (1 : Int) < (len : Int) := by omega
  have l2 : (2 : Int) < (len : Int) := by omega
  have l3 : (3 : Int) < (len : Int) := by omega
  go_enter Try.func87, Try.ntmps87
  go_wp2
  go_quiet (fail)
  go_wp2
  go_ret
  refine ⟨ret_int ?_, _, rfl⟩
  have hu : Fr.unword bs = c0 + c1 * 256 + c2 * 65536 + c3 * 16777216 := by
    unfold Fr.unword Fr.byte
    rw [e0.out, e1.out, e2.out, e3.out]
  rw [hu]
  show (c0 : Int) + (c1 : Int) * 256 + (c2 : Int) * 65536 + (c3 : Int) * 16777216 = _
  omega
/-- The first slice with other bytes behind it. -/
def RetJoin (w : World) (base : Nat) (row : Option Nat) (n : Nat) (bs : List UInt8) (e : Ending) (w' : World) : Prop :=
  ∃ ao cap, e = .returned (.slice ao n cap) ∧ Own8 w' base ao n cap bs ∧ w.grownBy w' row ∧ (Value.ownBlock (.slice ao n cap) = row ∨ ∃ g, Value.ownBlock (.slice ao n cap) = some g ∧ w.heap.size ≤ g)
theorem Row8.grown {w w' : World} {a : Option Addr} {len : Nat} {bs : List UInt8} {row : Option Nat} (h : Row8 w a len bs) (hg : w.grownBy w' row) (hd : ∀ b off, a = some ⟨b, off, none⟩ → row ≠ some b) : Row8 w' a len bs := by
  refine ⟨h.1, fun i hi => ?_⟩
  obtain ⟨b, off, ha, hc⟩ := h.2 i hi
  exact ⟨b, off, ha, hg.cell hc (fun e => hd b off ha e.symm)⟩
set_option maxRecDepth 100000 in
set_option maxHeartbeats 1000000 in
theorem join_any (base : Nat) (ao : Option Addr) (n cap : Nat) (xs : List UInt8) (bo : Option Addr) (m cm : Nat) (ys : List UInt8) (w : World) (hown : Own8 w base ao n cap xs) (hrow : Row8 w bo m ys)
    (hd : ∀ b off, bo = some ⟨b, off, none⟩ → 0 < m → Value.ownBlock (.slice ao n cap) ≠ some b) (hbase : base ≤ w.heap.size) (hbig : n + m ≤ 140737488355328) (N : Nat) (hN : n + m = N) :
    Calls Try.prog 67 #[.slice ao n cap, .slice bo m cm] w (RetJoin w base (Value.ownBlock (.slice ao n cap)) N (xs ++ ys)) := by
  subst hN
  have HR := Lib.hid hrow
  clear hrow
  have HO := Lib.hid hown
  clear hown
  obtain ⟨row, hrw⟩ : ∃ row, row = Value.ownBlock (.slice ao n cap) := ⟨_, rfl⟩
  rw [← hrw] at hd ⊢
  have HW := Lib.hid hrw
  clear hrw
  go_enter Try.func67, Try.ntmps67
  go_wp2
  go_loopw [0, 5] (fun v i wr => ∃ (k : Nat) (ak : Option Addr) (ck : Nat), k ≤ m ∧ i = .int .i64 k ∧ v = .slice ak (n + k) ck ∧ Own8 wr base ak (n + k) ck (xs ++ ys.take k) ∧ w.grownBy wr row ∧ (Value.ownBlock (.slice ak (n + k) ck) = row ∨ ∃ g, Value.ownBlock (.slice ak (n + k) ck) = some g ∧ w.heap.size ≤ g)) (fun _ i _ => m - (intOf i).toNat)
  case atStart => exact ⟨0, ao, cap, Nat.zero_le _, rfl, rfl, by simpa using HO.out, World.grownBy.refl _ _, .inl HW.out.symm⟩
  case round =>
    obtain ⟨k, ak, ck, hk, rfl, rfl, hok, hg, hrk⟩ := hrel
    by_cases hlt : k < m
    · obtain ⟨b, off, rfl, c, hc, hcb, hcell0⟩ := HR.out.at k hlt
      have hcell := hg.cell hcell0 (fun e => hd b off rfl (by omega) e.symm)
      have hkm : (k : Int) < (m : Int) := by omega
      have HRK := Lib.hid hrk
      have HG := Lib.hid hg
      have HOK := Lib.hid hok
      have hsz := hg.size
      clear hrk hg hok
      obtain ⟨x, hx⟩ : ∃ x : UInt8, x.toNat = c := ⟨ys.getD k 0, hcb.out⟩
      have HXC := Lib.hid hx
      clear hx
      go_wp2_with (at_builtin; refine wpList_append8 rfl (.tmp 12) (.tmp 17) rfl base ak (n + k) ck (xs ++ ys.take k) rfl (HOK.out.below (B := wr.heap.size) ((Below.refl _ _).alloc (Nat.le_refl _) _) (Nat.le_refl _)) (some ⟨wr.heap.size, 0, none⟩) 1 1 [x] rfl (Row8.new _ _ _ _ [x] 1 rfl ?c1) (fun h => by cases h) (by omega) (by simp; omega) (n + (k + 1)) (by omega) ?_)
      case c1 => simp [cells8, HXC.out]
      intro ao' cap' w1 hown1 hg1 hat1
      go_wp2
      go_roundw
      case rel =>
        refine ⟨k + 1, ao', cap', by omega, by go_num, rfl, ?_, grown_step (grown_step HG.out (World.grownBy_alloc _ _ _) (.inl rfl)) hg1 HRK.out, ?_⟩
        · have hx : x = ys[k]'(by rw [HR.out.1]; exact hlt) := by
            have e1 := hcb.out
            rw [List.getD_eq_getElem?_getD, List.getElem?_eq_getElem (by rw [HR.out.1]; exact hlt)] at e1
            exact UInt8.toNat_inj.1 (HXC.out.trans e1.symm)
          rw [List.take_succ_eq_append_getElem (by rw [HR.out.1]; exact hlt), ← hx]
          exact hown1
        · rcases hat1 with h | h
          · rcases HRK.out with h2 | h2
            · exact .inl (h.trans h2)
            · exact .inr (by rw [h]; exact h2)
          · exact .inr ⟨_, h, by omega⟩
      case measure => simp [intOf]; omega
    · have hke : k = m := by omega
      subst hke
      have hko := hok
      rw [List.take_of_length_le (by rw [HR.out.1]; exact Nat.le_refl _)] at hko
      go_wp2
      go_ret
      exact ⟨ak, ck, rfl, hko, hg, hrk⟩
theorem sum_first (n c : Nat) (hn : n < 4294967296) (hc : c < 256) : bits .xor .u32 (n : Int) (c : Int) = ((n ^^^ c : Nat) : Int) := by
  have hx : n ^^^ c < 2 ^ 32 := Nat.xor_lt_two_pow hn (by omega)
  show IntKind.u32.wrap ((BitVec.ofInt 32 (n : Int) ^^^ BitVec.ofInt 32 (c : Int)).toNat : Int) = _
  rw [BitVec.toNat_xor, BitVec.ofInt_natCast, BitVec.ofInt_natCast, BitVec.toNat_ofNat, BitVec.toNat_ofNat, Nat.mod_eq_of_lt hn, Nat.mod_eq_of_lt (by omega), IntKind.wrap_u32]
  omega
theorem not32 (n : Nat) (hn : n < 4294967296) : bits .xor .u32 IntKind.u32.max (n : Int) = ((4294967295 - n : Nat) : Int) := by
  have h1 : (BitVec.ofInt 32 (n : Int)) = BitVec.ofNat 32 n := BitVec.ofInt_natCast _ _
  have h2 : BitVec.ofInt 32 IntKind.u32.max = BitVec.allOnes 32 := by decide
  show IntKind.u32.wrap ((BitVec.ofInt 32 IntKind.u32.max ^^^ BitVec.ofInt 32 (n : Int)).toNat : Int) = _
  rw [h1, h2, BitVec.allOnes_xor, BitVec.toNat_not, BitVec.toNat_ofNat, Nat.mod_eq_of_lt hn, IntKind.wrap_u32]
  omega
set_option maxRecDepth 100000 in
set_option maxHeartbeats 800000 in
theorem sum_any (a : Option Addr) (len cap : Nat) (bs : List UInt8) (w : World) (hr : Row8 w a len bs) (hl : len ≤ maxLen) :
    Calls Try.prog 66 #[.slice a len cap] w fun e w' => e = .returned (.int .u32 (Crc.crc bs)) ∧ w = w' := by
  unfold maxLen at hl
  have HR := Lib.hid hr
  clear hr
  go_enter Try.func66, Try.ntmps66
  go_wp2
  go_loop [3, 8] (fun s i => ∃ (k : Nat) (n : Nat), k ≤ len ∧ i = .int .i64 k ∧ n < 4294967296 ∧ Hid (Crc.run 4294967295 (bs.take k) = n) ∧ s = .int .u32 n) (fun _ i => len - (intOf i).toNat)
  case atStart => exact ⟨0, 4294967295, Nat.zero_le _, rfl, by omega, rfl, rfl⟩
  case round =>
    obtain ⟨k, n, hk, rfl, hn, hrun, rfl⟩ := hrel
    by_cases hlt : k < len
    · obtain ⟨b, off, ha, c, hc, hcb, hcell⟩ := HR.out.at k hlt
      subst ha
      have hm : (c : Int) % 4294967296 = c := by omega
      have hx := sum_first n c hn hc
      go_wp2
      go_loop [3, 16] (fun s i => ∃ (j : Nat) (m : Nat), j ≤ 8 ∧ i = .int .i64 j ∧ m < 4294967296 ∧ Hid (Crc.stpN j (n ^^^ c) = m) ∧ s = .int .u32 m) (fun _ i => 8 - (intOf i).toNat)
      case atStart => exact ⟨0, n ^^^ c, by omega, rfl, Crc.xor_lt32 hn (by omega), rfl, rfl⟩
      case round =>
        obtain ⟨j, m, hj, rfl, hm', hst, rfl⟩ := hrel
        by_cases hlt' : j < 8
        · go_wp2
          go_round
          case rel => exact ⟨j + 1, Crc.stp m, by omega, by go_num, Crc.stp_lt hm', congrArg Crc.stp hst, val_int (Crc.code_step m hm')⟩
          case measure => simp [intOf]; omega
        · go_wp2
          go_round
          case rel =>
            have hj8 : j = 8 := by omega
            subst hj8
            refine ⟨k + 1, m, by omega, by go_num, hm', ?_, rfl⟩
            show _ = _
            rw [Crc.run_take bs _ k (by rw [HR.out.1]; exact hlt), hrun.out, hcb.out]
            exact hst
          case measure => simp [intOf]; omega
    · go_wp2
      go_ret
      have hke : k = len := by omega
      subst hke
      refine ⟨ret_int ?_, rfl⟩
      rw [not32 n hn]
      unfold Crc.crc
      have := hrun.out
      rw [List.take_of_length_le (by rw [HR.out.1]; omega)] at this
      rw [this]
theorem bne_nat (m c j : Nat) : ((m : Int) % 2 != (c : Int) / 2 ^ j % 2) = decide (m % 2 ≠ c / 2 ^ j % 2) := by
  have e : (c : Int) / 2 ^ j = ((c / 2 ^ j : Nat) : Int) := by simp
  rw [e, Bool.eq_iff_iff, bne_iff_ne, decide_eq_true_iff]
  omega
theorem ref_yes (m c j n : Nat) (hm : m < 4294967296) (hst : Crc.stpN j (n ^^^ c) ^^^ c / 2 ^ j = m) (h : ((m : Int) % 2 != (c : Int) / 2 ^ j % 2) = true) :
    m / 2 ^^^ Crc.poly < 4294967296 ∧ Hid (Crc.stpN (j + 1) (n ^^^ c) ^^^ c / 2 ^ (j + 1) = m / 2 ^^^ Crc.poly) ∧ bits .xor .u32 ((m : Int) / 2) 2197175160 = ((m / 2 ^^^ Crc.poly : Nat) : Int) := by
  rw [bne_nat, decide_eq_true_iff] at h
  have hx := Crc.xor_lt32 (a := m / 2) (b := Crc.poly) (by omega) (by unfold Crc.poly; omega)
  refine ⟨hx, ?_, ?_⟩
  · show _ = _
    rw [← Crc.ref_next, hst, if_pos h]
  · have e : (m : Int) / 2 = ((m / 2 : Nat) : Int) := by omega
    rw [e]
    have hp : Crc.poly < 2 ^ 32 := by unfold Crc.poly; omega
    show IntKind.u32.wrap ((BitVec.ofInt 32 ((m / 2 : Nat) : Int) ^^^ BitVec.ofInt 32 ((Crc.poly : Nat) : Int)).toNat : Int) = _
    rw [BitVec.toNat_xor, BitVec.ofInt_natCast, BitVec.ofInt_natCast, BitVec.toNat_ofNat, BitVec.toNat_ofNat, Nat.mod_eq_of_lt (by omega), Nat.mod_eq_of_lt hp, IntKind.wrap_u32]
    omega
theorem ref_no (m c j n : Nat) (hst : Crc.stpN j (n ^^^ c) ^^^ c / 2 ^ j = m) (h : ((m : Int) % 2 != (c : Int) / 2 ^ j % 2) = false) :
    Hid (Crc.stpN (j + 1) (n ^^^ c) ^^^ c / 2 ^ (j + 1) = m / 2) := by
  rw [bne_nat, decide_eq_false_iff_not] at h
  show _ = _
  rw [← Crc.ref_next, hst, if_neg h, Nat.xor_zero]
set_option maxRecDepth 100000 in
set_option maxHeartbeats 800000 in
theorem refsum_any (a : Option Addr) (len cap : Nat) (bs : List UInt8) (w : World) (hr : Row8 w a len bs) (hl : len ≤ maxLen) :
    Calls Try.prog 69 #[.slice a len cap] w fun e w' => e = .returned (.int .u32 (Crc.crc bs)) ∧ w = w' := by
  unfold maxLen at hl
  have HR := Lib.hid hr
  clear hr
  go_enter Try.func69, Try.ntmps69
  go_wp2
  go_loop [3, 4] (fun s i => ∃ (k : Nat) (n : Nat), k ≤ len ∧ i = .int .i64 k ∧ n < 4294967296 ∧ Hid (Crc.run 4294967295 (bs.take k) = n) ∧ s = .int .u32 n) (fun _ i => len - (intOf i).toNat)
  case atStart => exact ⟨0, 4294967295, Nat.zero_le _, rfl, by omega, rfl, rfl⟩
  case round =>
    obtain ⟨k, n, hk, rfl, hn, hrun, rfl⟩ := hrel
    by_cases hlt : k < len
    · obtain ⟨b, off, ha, c, hc, hcb, hcell⟩ := HR.out.at k hlt
      subst ha
      go_wp2
      go_loop [3, 5] (fun s i => ∃ (j : Nat) (m : Nat), j ≤ 8 ∧ i = .int .i64 j ∧ m < 4294967296 ∧ Hid (Crc.stpN j (n ^^^ c) ^^^ c / 2 ^ j = m) ∧ s = .int .u32 m) (fun _ i => 8 - (intOf i).toNat)
      case atStart => exact ⟨0, n, by omega, rfl, hn, Crc.ref_start n c, rfl⟩
      case round =>
        obtain ⟨j, m, hj, rfl, hm', hst, rfl⟩ := hrel
        by_cases hlt' : j < 8
        · go_wp2
          · have hbit : ((m : Int) % 2 != (c : Int) / 2 ^ j % 2) = true := by assumption
            have F := ref_yes m c j n hm' hst.out hbit
            go_round
            case rel => exact ⟨j + 1, _, by omega, by go_num, F.1, F.2.1, val_int F.2.2⟩
            case measure => simp [intOf]; omega
          · have hbit : ((m : Int) % 2 != (c : Int) / 2 ^ j % 2) = false := by assumption
            have F := ref_no m c j n hst.out hbit
            go_round
            case rel => exact ⟨j + 1, m / 2, by omega, by go_num, by omega, F, by simp⟩
            case measure => simp [intOf]; omega
        · go_wp2
          go_round
          case rel =>
            have hj8 : j = 8 := by omega
            subst hj8
            refine ⟨k + 1, m, by omega, by go_num, hm', ?_, rfl⟩
            show _ = _
            rw [Crc.run_take bs _ k (by rw [HR.out.1]; exact hlt), hrun.out, hcb.out, ← Crc.ref_end n c hc]
            exact hst
          case measure => simp [intOf]; omega
    · go_wp2
      go_ret
      have hke : k = len := by omega
      subst hke
      refine ⟨ret_int ?_, rfl⟩
      unfold Crc.crc
      have := hrun.out
      rw [List.take_of_length_le (by rw [HR.out.1]; omega)] at this
      rw [this]
      omega
set_option maxRecDepth 100000 in
set_option maxHeartbeats 1000000 in
theorem frame_yes (a : Option Addr) (len cap : Nat) (bs : List UInt8) (w : World) (hr : Row8 w a len bs) (hn : a = none → cap = 0) (h : len ≤ 4096) :
    Calls Try.prog 33 #[.slice a len cap] w (RetBytesCode w (8 + len) (Fr.frame bs) 0) := by
  have HR := Lib.hid hr
  clear hr
  have hl : len ≤ maxLen := by simp only [maxLen]; omega
  go_enter Try.func33, Try.ntmps33
  go_wp2_with fail
  refine (word_any len _ (by omega)).mono ?_
  rintro e w1 ⟨ao1, cap1, rfl, hown1, hb1⟩
  have hz1 := hb1.size
  go_wp2_with fail
  refine (sum_any a len cap bs _ (HR.out.below hb1) hl).mono ?_
  rintro e w1' ⟨rfl, rfl⟩
  go_wp2_with fail
  refine (word_any (Crc.crc bs) _ (Crc.crc_lt _)).mono ?_
  rintro e w2 ⟨ao2, cap2, rfl, hown2, hb2⟩
  have hz2 := hb2.size
  have hb12 : Below w.heap.size w w2 := hb1.trans (hb2.mono hz1)
  go_wp2_with (first
    | (at_builtin; refine wpList_append8 rfl (.tmp 11) (.tmp 14) rfl w.heap.size ao1 4 cap1 _ rfl (hown1.below hb2 (Nat.le_refl _)) ao2 4 cap2 _ rfl hown2.row hown2.nocap (by omega) (by omega) 8 rfl ?_; intro ao3 cap3 w3 hown3 hg3 hat3; have hb3 : Below w.heap.size w w3 := Own8.grown (hown1.below hb2 (Nat.le_refl _)) hb12 hg3 (Nat.le_refl _) (by omega); have hz3 := hb3.size)
    | (at_builtin; refine wpList_append8 rfl (.tmp 16) (.tmp 17) rfl w.heap.size ao3 8 cap3 _ rfl hown3 a len cap bs rfl (HR.out.below hb3) hn (by omega) (by omega) (8 + len) rfl ?_; intro ao4 cap4 w4 hown4 hg4 hat4; have hb4 : Below w.heap.size w w4 := Own8.grown hown3 hb3 hg4 (Nat.le_refl _) hz3))
  go_ret2
  refine ⟨ao4, cap4, rfl, ?_, hb4⟩
  have hfr : Fr.frame bs = Fr.word len ++ Fr.word (Crc.crc bs) ++ bs := by
    unfold Fr.frame
    rw [HR.out.1, List.append_assoc]
  rw [hfr]
  exact hown4
set_option maxRecDepth 100000 in
set_option maxHeartbeats 1000000 in
theorem frame_no (a : Option Addr) (len cap : Nat) (w : World) (h : ¬ len ≤ 4096) :
    Calls Try.prog 33 #[.slice a len cap] w (RetBytesCode w 0 [] 2) := by
  have h' : (4096 : Int) < (len : Int) := by omega
  go_enter Try.func33, Try.ntmps33
  go_wp2_with fail
  go_ret2
  exact ⟨_, _, rfl, Own8.nil _ _, Below.refl _ _⟩
set_option maxRecDepth 100000 in
set_option maxHeartbeats 1000000 in
theorem refframe_yes (a : Option Addr) (len cap : Nat) (bs : List UInt8) (w : World) (hr : Row8 w a len bs) (h : len ≤ 4096) :
    Calls Try.prog 34 #[.slice a len cap] w (RetBytesCode w (8 + len) (Fr.frame bs) 0) := by
  have HR := Lib.hid hr
  clear hr
  have hl : len ≤ maxLen := by simp only [maxLen]; omega
  go_enter Try.func34, Try.ntmps34
  go_wp2_with fail
  refine (refword_any len _ (by omega)).mono ?_
  rintro e w1 ⟨ao1, cap1, rfl, hown1, hb1⟩
  have hz1 := hb1.size
  go_wp2_with fail
  refine (refsum_any a len cap bs _ (HR.out.below hb1) hl).mono ?_
  rintro e w1' ⟨rfl, rfl⟩
  go_wp2_with fail
  refine (refword_any (Crc.crc bs) _ (Crc.crc_lt _)).mono ?_
  rintro e w2 ⟨ao2, cap2, rfl, hown2, hb2⟩
  have hz2 := hb2.size
  have hb12 : Below w.heap.size w w2 := hb1.trans (hb2.mono hz1)
  have hown1' := hown1.below hb2 (Nat.le_refl _)
  have hd : ∀ b off, ao2 = some ⟨b, off, none⟩ → 0 < 4 → Value.ownBlock (.slice ao1 4 cap1) ≠ some b := by
    rintro b off rfl _ he
    have h1 := hown1.block b he
    have h2 := hown2.block b rfl
    omega
  go_wp2_with fail
  refine (join_any w.heap.size ao1 4 cap1 _ ao2 4 cap2 _ _ hown1' hown2.row hd (by omega) (by omega) 8 rfl).mono ?_
  rintro e w3 ⟨ao3, cap3, rfl, hown3, hg3, _⟩
  have hb3 : Below w.heap.size w w3 := Own8.grown hown1' hb12 hg3 (Nat.le_refl _) (by omega)
  have hz3 := hb3.size
  have hd3 : ∀ b off, a = some ⟨b, off, none⟩ → 0 < len → Value.ownBlock (.slice ao3 8 cap3) ≠ some b := by
    rintro b off rfl hl0 he
    have h1 := hown3.block b he
    obtain ⟨b', off', hh, hc⟩ := HR.out.2 0 hl0
    simp only [Option.some.injEq, Addr.mk.injEq, and_true] at hh
    obtain ⟨rfl, rfl⟩ := hh
    have := World.block_lt_of_cell? w _ hc
    have h2 : b < w.heap.size := this
    omega
  go_wp2_with fail
  refine (join_any w.heap.size ao3 8 cap3 _ a len cap _ _ hown3 (HR.out.below hb3) hd3 (by omega) (by omega) (8 + len) rfl).mono ?_
  rintro e w4 ⟨ao4, cap4, rfl, hown4, hg4, _⟩
  have hb4 : Below w.heap.size w w4 := Own8.grown hown3 hb3 hg4 (Nat.le_refl _) (by omega)
  go_wp2
  go_ret2
  refine ⟨ao4, cap4, rfl, ?_, hb4⟩
  have hfr : Fr.frame bs = Fr.word len ++ Fr.word (Crc.crc bs) ++ bs := by
    unfold Fr.frame
    rw [HR.out.1, List.append_assoc]
  rw [hfr]
  exact hown4
set_option maxRecDepth 100000 in
set_option maxHeartbeats 1000000 in
theorem refframe_no (a : Option Addr) (len cap : Nat) (w : World) (h : ¬ len ≤ 4096) :
    Calls Try.prog 34 #[.slice a len cap] w (RetBytesCode w 0 [] 2) := by
  have h' : (4096 : Int) < (len : Int) := by omega
  go_enter Try.func34, Try.ntmps34
  go_wp2_with fail
  go_ret2
  exact ⟨_, _, rfl, Own8.nil _ _, Below.refl _ _⟩
/-- A cut of a row. -/
theorem Row8.cut {w : World} {b off len : Nat} {bs : List UInt8} (h : Row8 w (some ⟨b, off, none⟩) len bs) (k m : Nat) (hkm : k + m ≤ len) : Row8 w (some ⟨b, off + k, none⟩) m ((bs.drop k).take m) := by
  refine ⟨by rw [List.length_take, List.length_drop, h.1]; omega, fun i hi => ⟨b, off + k, rfl, ?_⟩⟩
  obtain ⟨b', off', he, hc⟩ := h.2 (k + i) (by omega)
  simp only [Option.some.injEq, Addr.mk.injEq, and_true] at he
  obtain ⟨rfl, rfl⟩ := he
  have e : ((bs.drop k).take m).getD i 0 = bs.getD (k + i) 0 := by
    rw [List.getD_eq_getElem?_getD, List.getElem?_take, if_pos hi, ← List.getD_eq_getElem?_getD, drop_getD]
  rw [e, ← hc, Nat.add_assoc]
theorem Row8.drewN {w : World} {a : Option Addr} {len : Nat} {bs : List UInt8} (h : Row8 w a len bs) (n : Nat) : Row8 (w.drewN n) a len bs := h
set_option maxRecDepth 100000 in
set_option maxHeartbeats 1000000 in
theorem unframe_short (a : Option Addr) (len cap : Nat) (w : World) (h : len < 8) :
    Calls Try.prog 43 #[.slice a len cap] w (RetBytesCode2 w 0 [] 0 31) := by
  have h' : (len : Int) < 8 := by omega
  go_enter Try.func43, Try.ntmps43
  go_wp2_with fail
  go_ret3
  exact ⟨_, _, rfl, Own8.nil _ _, Below.refl _ _⟩
set_option maxRecDepth 100000 in
set_option maxHeartbeats 1000000 in
theorem unframe_rest (a : Option Addr) (len cap : Nat) (bs : List UInt8) (w : World) (hr : Row8 w a len bs) (hlc : len ≤ cap) (hcm : cap ≤ maxLen) (h8 : ¬ len < 8) :
    Calls Try.prog 43 #[.slice a len cap] w (RetBytesCode2 w (Fr.unframe bs).1.length (Fr.unframe bs).1 (Fr.unframe bs).2.1 (Fr.unframe bs).2.2) := by
  have hlen := hr.1
  obtain ⟨b, off, rfl, _⟩ := hr.2 0 (by omega)
  have hl : len ≤ maxLen := Nat.le_trans hlc hcm
  have hmx : len ≤ 9223372036854775807 := by simpa [maxLen] using hl
  have hmc : cap ≤ 9223372036854775807 := by simpa [maxLen] using hcm
  have HL := Lib.hid hlen
  have HR := Lib.hid hr
  clear hr hlen
  have hn32 := Fr.unword_lt bs
  obtain ⟨n, hnw⟩ : ∃ n, n = Fr.unword bs := ⟨_, rfl⟩
  have HN := Lib.hid hnw
  rw [← hnw] at hn32
  clear hnw
  by_cases h2 : 4096 < n
  · have h2' : (4096 : Int) < (n : Int) := by omega
    go_enter Try.func43, Try.ntmps43
    go_wp2_with fail
    refine (unword_any _ len cap bs _ HR.out (by omega) hl).mono ?_
    rintro e w' ⟨rfl, q, rfl⟩
    rw [← HN.out]
    go_wp2_with fail
    go_ret3
    rw [Fr.unframe_long (by rw [HL.out]; exact h8) (by rw [← HN.out]; exact h2)]
    exact ⟨_, _, rfl, Own8.nil _ _, below_drewN (Below.refl _ _) q⟩
  by_cases h3 : len < 8 + n
  · have h2' : ¬ (4096 : Int) < (n : Int) := by omega
    have h3' : (len : Int) < 8 + (n : Int) := by omega
    go_enter Try.func43, Try.ntmps43
    go_wp2_with fail
    refine (unword_any _ len cap bs _ HR.out (by omega) hl).mono ?_
    rintro e w' ⟨rfl, q, rfl⟩
    rw [← HN.out]
    go_wp2_with fail
    go_ret3
    rw [Fr.unframe_more (by rw [HL.out]; exact h8) (by rw [← HN.out]; exact h2) (by rw [← HN.out, HL.out]; exact h3)]
    exact ⟨_, _, rfl, Own8.nil _ _, below_drewN (Below.refl _ _) q⟩
  have h2' : ¬ (4096 : Int) < (n : Int) := by omega
  have h3' : ¬ (len : Int) < 8 + (n : Int) := by omega
  have P := Lib.hid (HR.out.cut 8 n (by omega))
  have P0 : Hid (cap = 8 → Row8 w (some ⟨b, off, none⟩) n ((bs.drop 8).take n)) := fun hc => by
    have hn0 : n = 0 := by omega
    subst hn0
    exact ⟨by simp, fun i hi => absurd hi (by omega)⟩
  have P4 := Lib.hid (HR.out.cut 4 (len - 4) (by omega))
  have hc4 : ¬ cap = 4 := by omega
  have h4l : (4 : Int) ≤ (len : Int) := by omega
  have hplen : ((bs.drop 8).take n).length = n := P.out.1
  obtain ⟨p, hp⟩ : ∃ p, p = (bs.drop 8).take n := ⟨_, rfl⟩
  rw [← hp] at P P0 hplen
  have HP := Lib.hid hp
  have HPL := Lib.hid hplen
  have hu4 : Fr.unword ((bs.drop 4).take (len - 4)) = Fr.unword (bs.drop 4) := by
    rw [List.take_of_length_le (by rw [List.length_drop, HL.out]; exact Nat.le_refl _)]
  have HU4 := Lib.hid hu4
  clear hp hplen hu4
  by_cases h4 : Crc.crc p = Fr.unword ((bs.drop 4).take (len - 4))
  all_goals
    have H4 := Lib.hid h4
    have h4b : (((Crc.crc p : Nat) : Int) != (Fr.unword ((bs.drop 4).take (len - 4)) : Int)) = !decide (Crc.crc p = Fr.unword ((bs.drop 4).take (len - 4))) := by
      rw [Bool.eq_iff_iff, bne_iff_ne, Bool.not_eq_true', decide_eq_false_iff_not]
      omega
    first | rw [decide_eq_true h4] at h4b | rw [decide_eq_false h4] at h4b
    simp only [Bool.not_true, Bool.not_false] at h4b
    clear h4
    go_enter Try.func43, Try.ntmps43
    go_wp2_with fail
    refine (unword_any _ len cap bs _ HR.out (by omega) hl).mono ?_
    rintro e w' ⟨rfl, q, rfl⟩
    rw [← HN.out]
    go_wp2_with fail
    all_goals
      refine (clone_any _ n _ p _ (by first | exact P.out | exact P0.out (by assumption)) (fun h => by cases h) (by omega)).mono ?_
      rintro e w1 ⟨ao1, cap1, rfl, hown1, hb1⟩
      replace hb1 : Below w.heap.size w w1 := (below_drewN (Below.refl _ _) q).trans hb1
      replace hown1 : Own8 w1 w.heap.size ao1 n cap1 p := hown1
      go_wp2_with fail
      go_quiet ((first | (go_at_call 66; exact Calls.quiet_of (quiet_eq (sum_any _ _ _ p _ (by first | exact hown1.row | exact hown1.row.drewN _) (by simp only [maxLen]; omega)))) | (go_at_call 79; exact Calls.quiet_of (unword_any _ _ _ ((bs.drop 4).take (len - 4)) _ (by exact (P4.out.below hb1).drewN _) (by omega) (by simp only [maxLen]; omega)))))
      go_wp2
      go_ret3
      first
        | rw [Fr.unframe_ok (by rw [HL.out]; exact h8) (by rw [← HN.out]; exact h2) (by rw [← HN.out, HL.out]; exact h3) (by rw [← HN.out, ← HP.out, ← HU4.out]; exact H4.out), ← HN.out, ← HP.out]
          exact ⟨ao1, cap1, by rw [show ((8 + n : Nat) : Int) = 8 + (n : Int) from by omega, HPL.out]; rfl, by rw [HPL.out]; exact hown1, below_drewN hb1 _⟩
        | rw [Fr.unframe_sum (by rw [HL.out]; exact h8) (by rw [← HN.out]; exact h2) (by rw [← HN.out, HL.out]; exact h3) (by rw [← HN.out, ← HP.out, ← HU4.out]; exact H4.out)]
          exact ⟨none, 0, rfl, Own8.nil _ _, below_drewN hb1 _⟩
theorem unword_take (bs : List UInt8) (k : Nat) (hk : 4 ≤ k) : Fr.unword (bs.take k) = Fr.unword bs := by
  have hb : ∀ i, i < 4 → Fr.byte (bs.take k) i = Fr.byte bs i := fun i hi => by
    unfold Fr.byte
    rw [List.getD_eq_getElem?_getD, List.getD_eq_getElem?_getD, List.getElem?_take, if_pos (by omega)]
  unfold Fr.unword
  rw [hb 0 (by omega), hb 1 (by omega), hb 2 (by omega), hb 3 (by omega)]
set_option maxRecDepth 100000 in
set_option maxHeartbeats 1000000 in
theorem refunframe_short (a : Option Addr) (len cap : Nat) (w : World) (h : len < 8) :
    Calls Try.prog 49 #[.slice a len cap] w (RetBytesCode2 w 0 [] 0 31) := by
  have h' : (len : Int) < 8 := by omega
  go_enter Try.func49, Try.ntmps49
  go_wp2_with fail
  go_ret3
  exact ⟨_, _, rfl, Own8.nil _ _, Below.refl _ _⟩
set_option maxRecDepth 100000 in
set_option maxHeartbeats 1000000 in
theorem refunframe_rest (a : Option Addr) (len cap : Nat) (bs : List UInt8) (w : World) (hr : Row8 w a len bs) (hlc : len ≤ cap) (hcm : cap ≤ maxLen) (h8 : ¬ len < 8) :
    Calls Try.prog 49 #[.slice a len cap] w (RetBytesCode2 w (Fr.unframe bs).1.length (Fr.unframe bs).1 (Fr.unframe bs).2.1 (Fr.unframe bs).2.2) := by
  have hlen := hr.1
  obtain ⟨b, off, rfl, _⟩ := hr.2 0 (by omega)
  have hl : len ≤ maxLen := Nat.le_trans hlc hcm
  have hmx : len ≤ 9223372036854775807 := by simpa [maxLen] using hl
  have hmc : cap ≤ 9223372036854775807 := by simpa [maxLen] using hcm
  have HL := Lib.hid hlen
  have HR := Lib.hid hr
  clear hr hlen
  have hn32 := Fr.unword_lt bs
  obtain ⟨n, hnw⟩ : ∃ n, n = Fr.unword bs := ⟨_, rfl⟩
  have HN := Lib.hid hnw
  rw [← hnw] at hn32
  clear hnw
  have HN4 : Hid (Fr.unword (bs.take 4) = n) := (unword_take bs 4 (Nat.le_refl _)).trans HN.out.symm
  by_cases h2 : 4096 < n
  · have h2' : (4096 : Int) < (n : Int) := by omega
    go_enter Try.func49, Try.ntmps49
    go_wp2_with fail
    refine (refunword_any _ 4 cap (bs.take 4) _ (HR.out.cut 0 4 (by omega)) (by omega) (by decide)).mono ?_
    rintro e w' ⟨rfl, q, rfl⟩
    rw [HN4.out]
    go_wp2_with fail
    go_ret3
    rw [Fr.unframe_long (by rw [HL.out]; exact h8) (by rw [← HN.out]; exact h2)]
    exact ⟨_, _, rfl, Own8.nil _ _, below_drewN (Below.refl _ _) q⟩
  by_cases h3 : len < 8 + n
  · have h2' : ¬ (4096 : Int) < (n : Int) := by omega
    have h3' : (len : Int) - 8 < (n : Int) := by omega
    go_enter Try.func49, Try.ntmps49
    go_wp2_with fail
    refine (refunword_any _ 4 cap (bs.take 4) _ (HR.out.cut 0 4 (by omega)) (by omega) (by decide)).mono ?_
    rintro e w' ⟨rfl, q, rfl⟩
    rw [HN4.out]
    go_wp2_with fail
    go_ret3
    rw [Fr.unframe_more (by rw [HL.out]; exact h8) (by rw [← HN.out]; exact h2) (by rw [← HN.out, HL.out]; exact h3)]
    exact ⟨_, _, rfl, Own8.nil _ _, below_drewN (Below.refl _ _) q⟩
  have h2' : ¬ (4096 : Int) < (n : Int) := by omega
  have h3' : ¬ (len : Int) - 8 < (n : Int) := by omega
  have P := Lib.hid (HR.out.cut 8 n (by omega))
  have P0 : Hid (cap = 8 → Row8 w (some ⟨b, off, none⟩) n ((bs.drop 8).take n)) := fun hc => by
    have hn0 : n = 0 := by omega
    subst hn0
    exact ⟨by simp, fun i hi => absurd hi (by omega)⟩
  have P4 := Lib.hid (HR.out.cut 4 4 (by omega))
  have hc4 : ¬ cap = 4 := by omega
  have h4l : (4 : Int) ≤ (len : Int) := by omega
  have hplen : ((bs.drop 8).take n).length = n := P.out.1
  obtain ⟨p, hp⟩ : ∃ p, p = (bs.drop 8).take n := ⟨_, rfl⟩
  rw [← hp] at P P0 hplen
  have HP := Lib.hid hp
  have HPL := Lib.hid hplen
  have hu4 : Fr.unword ((bs.drop 4).take 4) = Fr.unword (bs.drop 4) := by
    exact unword_take _ 4 (Nat.le_refl _)
  have HU4 := Lib.hid hu4
  clear hp hplen hu4
  by_cases h4 : Crc.crc p = Fr.unword ((bs.drop 4).take 4)
  all_goals
    have H4 := Lib.hid h4
    have h4b : (((Crc.crc p : Nat) : Int) != (Fr.unword ((bs.drop 4).take 4) : Int)) = !decide (Crc.crc p = Fr.unword ((bs.drop 4).take 4)) := by
      rw [Bool.eq_iff_iff, bne_iff_ne, Bool.not_eq_true', decide_eq_false_iff_not]
      omega
    first | rw [decide_eq_true h4] at h4b | rw [decide_eq_false h4] at h4b
    simp only [Bool.not_true, Bool.not_false] at h4b
    clear h4
    go_enter Try.func49, Try.ntmps49
    go_wp2_with fail
    refine (refunword_any _ 4 cap (bs.take 4) _ (HR.out.cut 0 4 (by omega)) (by omega) (by decide)).mono ?_
    rintro e w' ⟨rfl, q, rfl⟩
    rw [HN4.out]
    go_wp2_with fail
    all_goals
      refine (join_any w.heap.size none 0 0 [] _ n _ p _ (Own8.nil _ _) (by first | exact P.out | exact P0.out (by assumption)) (fun _ _ _ _ h => by cases h) (by simp) (by omega) n (by omega)).mono ?_
      rintro e w1 ⟨ao1, cap1, rfl, hown1, hg1, _⟩
      have hb1 : Below w.heap.size w w1 := (below_drewN (Below.refl _ _) q).grown hg1 (Nat.le_refl _) (fun k hk => by cases hk)
      replace hown1 : Own8 w1 w.heap.size ao1 n cap1 p := hown1
      go_wp2_with fail
      go_quiet ((first | (go_at_call 69; exact Calls.quiet_of (quiet_eq (refsum_any _ _ _ p _ (by first | exact hown1.row | exact hown1.row.drewN _) (by simp only [maxLen]; omega)))) | (go_at_call 87; exact Calls.quiet_of (refunword_any _ _ _ ((bs.drop 4).take 4) _ (by exact (P4.out.below hb1).drewN _) (by omega) (by simp only [maxLen]; omega)))))
      go_wp2
      go_ret3
      first
        | rw [Fr.unframe_ok (by rw [HL.out]; exact h8) (by rw [← HN.out]; exact h2) (by rw [← HN.out, HL.out]; exact h3) (by rw [← HN.out, ← HP.out, ← HU4.out]; exact H4.out), ← HN.out, ← HP.out]
          exact ⟨ao1, cap1, by rw [show ((8 + n : Nat) : Int) = 8 + (n : Int) from by omega, HPL.out]; rfl, by rw [HPL.out]; exact hown1, below_drewN hb1 _⟩
        | rw [Fr.unframe_sum (by rw [HL.out]; exact h8) (by rw [← HN.out]; exact h2) (by rw [← HN.out, HL.out]; exact h3) (by rw [← HN.out, ← HP.out, ← HU4.out]; exact H4.out)]
          exact ⟨none, 0, rfl, Own8.nil _ _, below_drewN hb1 _⟩
def Fr.framed (p : List UInt8) : List UInt8 × Nat := if p.length ≤ 4096 then (Fr.frame p, 0) else ([], 2)
theorem RetBytesCode.to {w : World} {n n' : Nat} {bs bs' : List UInt8} {c c' : Nat} {e : Ending} {w' : World} (h : RetBytesCode w n bs c e w') (hn : n = n') (hb : bs = bs') (hc : c = c') : RetBytesCode w n' bs' c' e w' := by
  subst hn hb hc; exact h
theorem RetBytesCode2.to {w : World} {n n' : Nat} {bs bs' : List UInt8} {k k' c c' : Nat} {e : Ending} {w' : World} (h : RetBytesCode2 w n bs k c e w') (hn : n = n') (hb : bs = bs') (hk : k = k') (hc : c = c') : RetBytesCode2 w n' bs' k' c' e w' := by
  subst hn hb hk hc; exact h
theorem framed_yes {p : List UInt8} (h : p.length ≤ 4096) : Fr.framed p = (Fr.frame p, 0) := by rw [Fr.framed, if_pos h]
theorem framed_no {p : List UInt8} (h : ¬ p.length ≤ 4096) : Fr.framed p = ([], 2) := by rw [Fr.framed, if_neg h]
theorem frame_all (a : Option Addr) (len cap : Nat) (bs : List UInt8) (w : World) (hr : Row8 w a len bs) (hn : a = none → cap = 0) :
    Calls Try.prog 33 #[.slice a len cap] w (RetBytesCode w (Fr.framed bs).1.length (Fr.framed bs).1 (Fr.framed bs).2) := by
  by_cases h : len ≤ 4096
  · have e := framed_yes (p := bs) (by rw [hr.1]; exact h)
    exact (frame_yes a len cap bs w hr hn h).mono fun _ _ x => x.to (by rw [e, Fr.frame_length, hr.1]; omega) (by rw [e]) (by rw [e])
  · have e := framed_no (p := bs) (by rw [hr.1]; exact h)
    exact (frame_no a len cap w h).mono fun _ _ x => x.to (by rw [e]; rfl) (by rw [e]) (by rw [e])
theorem refframe_all (a : Option Addr) (len cap : Nat) (bs : List UInt8) (w : World) (hr : Row8 w a len bs) :
    Calls Try.prog 34 #[.slice a len cap] w (RetBytesCode w (Fr.framed bs).1.length (Fr.framed bs).1 (Fr.framed bs).2) := by
  by_cases h : len ≤ 4096
  · have e := framed_yes (p := bs) (by rw [hr.1]; exact h)
    exact (refframe_yes a len cap bs w hr h).mono fun _ _ x => x.to (by rw [e, Fr.frame_length, hr.1]; omega) (by rw [e]) (by rw [e])
  · have e := framed_no (p := bs) (by rw [hr.1]; exact h)
    exact (refframe_no a len cap w h).mono fun _ _ x => x.to (by rw [e]; rfl) (by rw [e]) (by rw [e])
theorem unframe_all (a : Option Addr) (len cap : Nat) (bs : List UInt8) (w : World) (hr : Row8 w a len bs) (hlc : len ≤ cap) (hcm : cap ≤ maxLen) :
    Calls Try.prog 43 #[.slice a len cap] w (RetBytesCode2 w (Fr.unframe bs).1.length (Fr.unframe bs).1 (Fr.unframe bs).2.1 (Fr.unframe bs).2.2) := by
  by_cases h : len < 8
  · have e := Fr.unframe_short (b := bs) (by rw [hr.1]; exact h)
    exact (unframe_short a len cap w h).mono fun _ _ x => x.to (by rw [e]; rfl) (by rw [e]) (by rw [e]) (by rw [e])
  · exact unframe_rest a len cap bs w hr hlc hcm h
theorem refunframe_all (a : Option Addr) (len cap : Nat) (bs : List UInt8) (w : World) (hr : Row8 w a len bs) (hlc : len ≤ cap) (hcm : cap ≤ maxLen) :
    Calls Try.prog 49 #[.slice a len cap] w (RetBytesCode2 w (Fr.unframe bs).1.length (Fr.unframe bs).1 (Fr.unframe bs).2.1 (Fr.unframe bs).2.2) := by
  by_cases h : len < 8
  · have e := Fr.unframe_short (b := bs) (by rw [hr.1]; exact h)
    exact (refunframe_short a len cap w h).mono fun _ _ x => x.to (by rw [e]; rfl) (by rw [e]) (by rw [e]) (by rw [e])
  · exact refunframe_rest a len cap bs w hr hlc hcm h
end Go.Proofs.Ytcejamblndilbaa
