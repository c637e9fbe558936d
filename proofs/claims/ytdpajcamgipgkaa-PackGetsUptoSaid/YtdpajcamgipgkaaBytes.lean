/- Small functions on bytes: words of four bytes, clones, joins, equality. -/
import Derived.Test.YtdpajcamgipgkaaBase
import Derived.Test.YtdpajcamgipgkaaFr
import Derived.Deep.QuietTactic
import Derived.BigQuiet
import Derived.Deep.Draws
namespace Go.Proofs.Ytdpajcamgipgkaa
open Go.RowKit

/-- It returns these bytes, in memory of its own; what was there is as it was. -/
def RetBytes (w : World) (n : Nat) (bs : List UInt8) (e : Ending) (w' : World) : Prop :=
  ∃ ao cap, e = .returned (.slice ao n cap) ∧ Own8 w' w.heap.size ao n cap bs ∧ Below w.heap.size w w'
/-- .. and a number -/
def RetBytesCode (w : World) (n : Nat) (bs : List UInt8) (code : Nat) (e : Ending) (w' : World) : Prop :=
  ∃ ao cap, e = .returned (.tuple #[.slice ao n cap, .int .i64 (code : Nat)]) ∧ Own8 w' w.heap.size ao n cap bs ∧ Below w.heap.size w w'
/-- .. and two numbers -/
def RetBytesCode2 (w : World) (n : Nat) (bs : List UInt8) (k code : Nat) (e : Ending) (w' : World) : Prop :=
  ∃ ao cap, e = .returned (.tuple #[.slice ao n cap, .int .i64 (k : Nat), .int .i64 (code : Nat)]) ∧ Own8 w' w.heap.size ao n cap bs ∧ Below w.heap.size w w'

/-- It returns this, and has only drawn. -/
def RetQuiet (w : World) (v : Value) (e : Ending) (w' : World) : Prop := e = .returned v ∧ ∃ n, w' = w.drewN n

theorem quiet_of {P : Program} {f : FuncId} {args : Array Value} {w : World} {v : Value} (h : Calls P f args w (RetQuiet w v)) : Calls P f args w fun e w'' => e = .returned v ∧ ∃ m, w'' = w.drewN m := h
theorem quiet_eq {P : Program} {f : FuncId} {args : Array Value} {w : World} {v : Value} (h : Calls P f args w fun e w' => e = .returned v ∧ w = w') : Calls P f args w (RetQuiet w v) :=
  h.mono fun _ _ ⟨he, hw⟩ => ⟨he, 0, hw.symm⟩

theorem byte8 (n : Nat) : (((UInt8.ofNat (n % 256)).toNat : Nat) : Int) = (n : Int) % 256 := by
  rw [UInt8.toNat_ofNat']
  omega

theorem own_fresh4 (w : World) (c0 c1 c2 c3 : Value) (bs : List UInt8) (h : #[c0, c1, c2, c3].toList = cells8 bs) (hl : bs.length = 4) :
    Own8 (w.alloc (.cells #[c0, c1, c2, c3] 5)) w.heap.size (some ⟨w.heap.size, 0, none⟩) 4 4 bs := Own8.made w _ _ bs 4 (Nat.le_refl _) (by decide) hl h

theorem cells_word (u : Nat) : cells8 (Fr.word u) = [.int .u8 ((u : Int) % 256), .int .u8 ((u : Int) / 256 % 256), .int .u8 ((u : Int) / 65536 % 256), .int .u8 ((u : Int) / 16777216 % 256)] := by
  simp only [cells8, Fr.word, List.map_cons, List.map_nil, byte8]
  simp

set_option maxHeartbeats 800000 in
theorem word_any (u : Nat) (w : World) (hu : u < 4294967296) : Calls Try.prog 46 #[.int .u32 (u : Int)] w (RetBytes w 4 (Fr.word u)) := by
  go_enter Try.func46, Try.ntmps46
  go_wp2
  go_ret
  refine ⟨_, _, rfl, own_fresh4 _ _ _ _ _ _ ?_ rfl, (Below.refl _ _).alloc (Nat.le_refl _) _⟩
  rw [cells_word, show (u : Int) / 16777216 % 256 = (u : Int) / 16777216 from by omega]

set_option maxHeartbeats 800000 in
theorem refword_any (u : Nat) (w : World) (hu : u < 4294967296) : Calls Try.prog 48 #[.int .u32 (u : Int)] w (RetBytes w 4 (Fr.word u)) := by
  go_enter Try.func48, Try.ntmps48
  go_wp2
  go_ret
  refine ⟨_, _, rfl, own_fresh4 _ _ _ _ _ _ ?_ rfl, (Below.refl _ _).alloc (Nat.le_refl _) _⟩
  rw [cells_word, show (u : Int) / 16777216 % 256 = (u : Int) / 16777216 from by omega]

theorem or_join (a b k : Nat) (ha : a < 2 ^ k) (hb : a + b * 2 ^ k < 4294967296) : bits .or .u32 (a : Int) ((b * 2 ^ k : Nat) : Int) = ((a + b * 2 ^ k : Nat) : Int) := by
  have h1 : a < 2 ^ 32 := by omega
  have h2 : b * 2 ^ k < 2 ^ 32 := by omega
  show IntKind.u32.wrap ((BitVec.ofInt 32 (a : Int) ||| BitVec.ofInt 32 ((b * 2 ^ k : Nat) : Int)).toNat : Int) = _
  rw [BitVec.toNat_or, BitVec.ofInt_natCast, BitVec.ofInt_natCast, BitVec.toNat_ofNat, BitVec.toNat_ofNat, Nat.mod_eq_of_lt h1, Nat.mod_eq_of_lt h2, Nat.or_comm, Nat.mul_comm, ← Nat.two_pow_add_eq_or_of_lt ha, IntKind.wrap_u32]
  have h3 : 2 ^ k * b = b * 2 ^ k := Nat.mul_comm _ _
  omega

theorem or4 (c0 c1 c2 c3 : Nat) (h0 : c0 < 256) (h1 : c1 < 256) (h2 : c2 < 256) (h3 : c3 < 256) :
    bits .or .u32 (bits .or .u32 (bits .or .u32 (c0 : Int) ((c1 : Int) * 256)) ((c2 : Int) * 65536)) ((c3 : Int) * 16777216) = ((c0 + c1 * 256 + c2 * 65536 + c3 * 16777216 : Nat) : Int) := by
  have a1 := or_join c0 c1 8 (by omega) (by omega)
  have a2 := or_join (c0 + c1 * 256) c2 16 (by omega) (by omega)
  have a3 := or_join (c0 + c1 * 256 + c2 * 65536) c3 24 (by omega) (by omega)
  have e1 : (c1 : Int) * 256 = ((c1 * 2 ^ 8 : Nat) : Int) := by omega
  have e2 : (c2 : Int) * 65536 = ((c2 * 2 ^ 16 : Nat) : Int) := by omega
  have e3 : (c3 : Int) * 16777216 = ((c3 * 2 ^ 24 : Nat) : Int) := by omega
  rw [e1, e2, e3, a1]
  exact (congrArg (fun z => bits .or .u32 z ((c3 * 2 ^ 24 : Nat) : Int)) a2).trans a3

set_option maxHeartbeats 800000 in
theorem unword_any (a : Option Addr) (len cap : Nat) (bs : List UInt8) (w : World) (hr : Row8 w a len bs) (h4 : 4 ≤ len) (hl : len ≤ maxLen) :
    Calls Try.prog 49 #[.slice a len cap] w (RetQuiet w (.int .u32 (Fr.unword bs : Nat))) := by
  unfold maxLen at hl
  obtain ⟨b, off, rfl, c0, h0, e0, k0⟩ := hr.at 0 (by omega)
  obtain ⟨b1, off1, ha1, c1, h1, e1, k1⟩ := hr.at 1 (by omega)
  obtain ⟨b2, off2, ha2, c2, h2, e2, k2⟩ := hr.at 2 (by omega)
  obtain ⟨b3, off3, ha3, c3, h3, e3, k3⟩ := hr.at 3 (by omega)
  simp only [Option.some.injEq, Addr.mk.injEq, and_true] at ha1 ha2 ha3
  obtain ⟨rfl, rfl⟩ := ha1
  obtain ⟨rfl, rfl⟩ := ha2
  obtain ⟨rfl, rfl⟩ := ha3
  rw [Nat.add_zero] at k0
  clear hr
  have l0 : (0 : Int) < (len : Int) := by omega
  have l1 : (1 : Int) < (len : Int) := by omega
  have l2 : (2 : Int) < (len : Int) := by omega
  have l3 : (3 : Int) < (len : Int) := by omega
  go_enter Try.func49, Try.ntmps49
  go_wp2
  go_quiet (fail)
  go_wp2
  go_ret
  refine ⟨ret_int ?_, _, rfl⟩
  have hu : Fr.unword bs = c0 + c1 * 256 + c2 * 65536 + c3 * 16777216 := by
    unfold Fr.unword Fr.byte
    rw [e0.out, e1.out, e2.out, e3.out]
  rw [hu]
  exact or4 c0 c1 c2 c3 h0 h1 h2 h3

set_option maxHeartbeats 800000 in
theorem refunword_any (a : Option Addr) (len cap : Nat) (bs : List UInt8) (w : World) (hr : Row8 w a len bs) (h4 : 4 ≤ len) (hl : len ≤ maxLen) :
    Calls Try.prog 51 #[.slice a len cap] w (RetQuiet w (.int .u32 (Fr.unword bs : Nat))) := by
  unfold maxLen at hl
  obtain ⟨b, off, rfl, c0, h0, e0, k0⟩ := hr.at 0 (by omega)
  obtain ⟨b1, off1, ha1, c1, h1, e1, k1⟩ := hr.at 1 (by omega)
  obtain ⟨b2, off2, ha2, c2, h2, e2, k2⟩ := hr.at 2 (by omega)
  obtain ⟨b3, off3, ha3, c3, h3, e3, k3⟩ := hr.at 3 (by omega)
  simp only [Option.some.injEq, Addr.mk.injEq, and_true] at ha1 ha2 ha3
  obtain ⟨rfl, rfl⟩ := ha1
  obtain ⟨rfl, rfl⟩ := ha2
  obtain ⟨rfl, rfl⟩ := ha3
  rw [Nat.add_zero] at k0
  clear hr
  have l0 : (0 : Int) < (len : Int) := by omega
  have l1 : (1 : Int) < (len : Int) := by omega
  have l2 : (2 : Int) < (len : Int) := by omega
  have l3 : (3 : Int) < (len : Int) := by omega
  go_enter Try.func51, Try.ntmps51
  go_wp2
  go_quiet (fail)
  go_wp2
  go_ret
  refine ⟨ret_int ?_, _, rfl⟩
  have hu : Fr.unword bs = c0 + c1 * 256 + c2 * 65536 + c3 * 16777216 := by
    unfold Fr.unword Fr.byte
    rw [e0.out, e1.out, e2.out, e3.out]
  rw [hu]
  show (c0 : Int) + (c1 : Int) * 256 + (c2 : Int) * 65536 + (c3 : Int) * 16777216 = _
  omega

/-! ### slices.Clone -/

set_option maxHeartbeats 800000 in
theorem clone_any (a : Option Addr) (len cap : Nat) (bs : List UInt8) (w : World) (hr : Row8 w a len bs) (hn : a = none → len = 0 ∧ cap = 0) (hl : len ≤ 140737488355328) :
    Calls Try.prog 50 #[.slice a len cap] w (RetBytes w len bs) := by
  have heq := fun (w : World) (a : Option Addr) (n c : Nat) => Lib.run_eql_slice_nil (P := Try.prog) w 22 5 a n c 0 0 Try.underlying22
  cases a with
  | none =>
    obtain ⟨rfl, rfl⟩ := hn rfl
    obtain rfl : bs = [] := List.eq_nil_of_length_eq_zero hr.1
    clear hr
    go_enter Try.func50, Try.ntmps50
    go_wp2
    go_ret
    exact ⟨_, _, rfl, Own8.nil _ _, Below.refl _ _⟩
  | some ad =>
    have HR := Lib.hid hr
    clear hr hn
    go_enter Try.func50, Try.ntmps50
    go_wp2_with (at_builtin; refine wpList_append8 rfl (.tmp 5) (.tmp 6) rfl w.heap.size (some ⟨w.heap.size, 0, none⟩) 0 0 [] rfl (Own8.fresh _ _ _ _ _ 0 rfl (Nat.le_refl _) (by decide) rfl rfl) (some ad) len cap bs rfl (HR.out.alloc _) (fun h => by cases h) (by omega) (by simp) len (by omega) ?_; intro ao' cap' w1 hown hg hat; rw [List.nil_append] at hown)
    go_ret
    exact ⟨_, _, rfl, hown, ((Below.refl _ _).alloc (Nat.le_refl _) _).grown hg (by simp) (fun k hk => by simp [Value.ownBlock] at hk; omega)⟩

/-! ### equality -/

set_option maxHeartbeats 800000 in
theorem same_any (a b : Option Addr) (n m cn cm : Nat) (xs ys : List UInt8) (w : World) (hx : Row8 w a n xs) (hy : Row8 w b m ys) (hn : n ≤ maxLen) (_hm : m ≤ maxLen) :
    Calls Try.prog 21 #[.slice a n cn, .slice b m cm] w (RetQuiet w (.bool (decide (xs = ys)))) := by
  unfold maxLen at hn
  have HX := Lib.hid hx
  have HY := Lib.hid hy
  clear hx hy
  by_cases hnm : n = m
  · subst hnm
    go_enter Try.func21, Try.ntmps21
    go_wp2
    go_loopw [5] (fun i wr => ∃ (k q : Nat), k ≤ n ∧ i = .int .i64 k ∧ Hid (xs.take k = ys.take k) ∧ wr = w.drewN q) (fun i _ => n - (intOf i).toNat)
    case atStart => exact ⟨0, 0, Nat.zero_le _, rfl, rfl, rfl⟩
    case round =>
      obtain ⟨k, q, hk, rfl, htk, rfl⟩ := hrel
      by_cases hlt : k < n
      · obtain ⟨b1, o1, rfl, c, hc, hcb, hcell⟩ := HX.out.at k hlt
        obtain ⟨b2, o2, rfl, d, hd, hdb, hdell⟩ := HY.out.at k hlt
        have hkn : (k : Int) < (n : Int) := by omega
        have hk0 : (0 : Int) ≤ (k : Int) := by omega
        have hnat : ((k : Int)).toNat = k := by omega
        by_cases hcd : c = d
        · subst hcd
          go_wp2
          go_quiet (fail)
          go_wp2
          go_roundw
          case rel =>
            refine ⟨k + 1, q + nq, by omega, by go_num, ?_, by simp⟩
            show _ = _
            rw [List.take_succ_eq_append_getElem (by rw [HX.out.1]; exact hlt), List.take_succ_eq_append_getElem (by rw [HY.out.1]; exact hlt), htk.out]
            have e1 := hcb.out
            have e2 := hdb.out
            rw [List.getD_eq_getElem?_getD, List.getElem?_eq_getElem (by rw [HX.out.1]; exact hlt)] at e1
            rw [List.getD_eq_getElem?_getD, List.getElem?_eq_getElem (by rw [HY.out.1]; exact hlt)] at e2
            have e3 : xs[k]'(by rw [HX.out.1]; exact hlt) = ys[k]'(by rw [HY.out.1]; exact hlt) := UInt8.toNat_inj.1 (e1.trans e2.symm)
            rw [e3]
          case measure => simp [intOf]; omega
        · have hne : ((c : Int) != (d : Int)) = true := by simp; omega
          go_wp2
          go_quiet (fail)
          go_wp2
          go_ret
          refine ⟨?_, q + nq, by simp⟩
          have hxy : xs ≠ ys := fun e => hcd (by rw [← hcb.out, ← hdb.out, e])
          rw [decide_eq_false hxy]
          rfl
      · go_wp2
        go_ret
        have hke : k = n := by omega
        subst hke
        refine ⟨?_, q, rfl⟩
        have hx2 := htk.out
        rw [List.take_of_length_le (by rw [HX.out.1]; omega), List.take_of_length_le (by rw [HY.out.1]; omega)] at hx2
        rw [decide_eq_true hx2]
        rfl
  · have hne : ((n : Int) != (m : Int)) = true := by simp; omega
    go_enter Try.func21, Try.ntmps21
    go_wp2
    go_ret
    refine ⟨?_, 0, rfl⟩
    have : xs ≠ ys := fun e => hnm (by rw [← HX.out.1, ← HY.out.1, e])
    rw [decide_eq_false this]
    rfl

end Go.Proofs.Ytdpajcamgipgkaa
