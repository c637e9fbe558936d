/- The plain mathematics of values as bytes. No program in sight. -/
import Derived.Test.YtdpajcamgipgkaaRowN
import Derived.Test.YtdpajcamgipgkaaFlo
namespace Go.Proofs.Ytdpajcamgipgkaa
open Go.RowKit

/-- a number's bits, its sign at the end -/
def zig (n : Int) : Nat := if n < 0 then (-(n + 1)).toNat * 2 + 1 else n.toNat * 2
/-- groups of seven bits -/
def lebF : Nat → Nat → List UInt8
  | 0, _ => []
  | f + 1, u => if u < 128 then [UInt8.ofNat u] else UInt8.ofNat (u % 128 + 128) :: lebF f (u / 128)
def numBytes (n : Int) : List UInt8 := lebF 10 (zig n)

theorem zig_lt (n : Int) (h : -9223372036854775808 ≤ n ∧ n ≤ 9223372036854775807) : zig n < 2 ^ 64 := by
  unfold zig
  split <;> omega
theorem lebF_len (f : Nat) : ∀ u, (lebF f u).length ≤ f := by
  induction f with
  | zero => intro u; simp [lebF]
  | succ f ih =>
    intro u
    rw [lebF]
    split
    · simp
    · have := ih (u / 128); simp only [List.length_cons]; omega
theorem numBytes_len (n : Int) : (numBytes n).length ≤ 10 := lebF_len 10 _

/-- a code's bytes -/
def keyBytes (u : Nat) : List UInt8 := (List.range 8).map fun i => UInt8.ofNat (u / 2 ^ (56 - 8 * i) % 256)

structure Vl where
  kind : Int
  n : Int
  x : Nat
  s : Sl
  on : Bool
def Vl.cells (v : Vl) : List Value := [.int .i64 v.kind, .int .i64 v.n, .float .f64 v.x, v.s.val, .bool v.on]
def Vl.ok (w : World) (v : Vl) : Prop := v.s.ok w ∧ v.x < 2 ^ 64 ∧ (-9223372036854775808 ≤ v.n ∧ v.n ≤ 9223372036854775807) ∧ (-9223372036854775808 ≤ v.kind ∧ v.kind ≤ 9223372036854775807)
def Vl.err (v : Vl) : Nat := if v.kind = 3 then (if v.s.len ≤ 4096 then 0 else 2) else if v.kind = 1 ∨ v.kind = 2 ∨ v.kind = 4 then 0 else 1
def Vl.bytes (v : Vl) : List UInt8 :=
  if v.kind = 1 then numBytes v.n else if v.kind = 2 then keyBytes (Flo.code v.x) else if v.kind = 3 then numBytes v.s.len ++ v.s.bs else [if v.on then 1 else 0]
def putAll : List Vl → List UInt8 → List UInt8 × Nat
  | [], acc => (acc, 0)
  | v :: r, acc => if v.err = 0 then putAll r (acc ++ v.bytes) else ([], v.err)

theorem putAll_ok {v : Vl} {r : List Vl} {acc : List UInt8} (h : v.err = 0) : putAll (v :: r) acc = putAll r (acc ++ v.bytes) := by rw [putAll, if_pos h]
theorem putAll_no {v : Vl} {r : List Vl} {acc : List UInt8} (h : v.err ≠ 0) : putAll (v :: r) acc = ([], v.err) := by rw [putAll, if_neg h]

def bulkV (vs : List Vl) : Nat := (vs.map fun v => v.s.len + 1).sum
theorem bulkV_cons (v : Vl) (r : List Vl) : bulkV (v :: r) = v.s.len + 1 + bulkV r := by simp [bulkV]
theorem bulkV_len (vs : List Vl) : vs.length ≤ bulkV vs := by
  induction vs with
  | nil => simp
  | cons v r ih => rw [bulkV_cons, List.length_cons]; omega
theorem bytes_len (v : Vl) (h : v.s.bs.length = v.s.len) : v.bytes.length ≤ 10 * (v.s.len + 1) := by
  unfold Vl.bytes
  have h1 := numBytes_len v.n
  have h2 := numBytes_len v.s.len
  split
  · omega
  split
  · simp [keyBytes]; omega
  split
  · rw [List.length_append]; omega
  · simp; omega


theorem or128 (c : Nat) (h : c < 256) : bits .or .u8 (c : Int) 128 = ((c % 128 + 128 : Nat) : Int) := by
  have hor : c ||| 2 ^ 7 = c % 128 + 128 := by
    apply Nat.eq_of_testBit_eq
    intro i
    have e : c % 128 + 128 = 2 ^ 7 * 1 + c % 2 ^ 7 := by omega
    rw [e, Nat.testBit_or, Nat.testBit_two_pow, Nat.two_pow_add_eq_or_of_lt (Nat.mod_lt _ (by decide)), Nat.testBit_or, Nat.mul_one, Nat.testBit_two_pow, Nat.testBit_mod_two_pow]
    by_cases hi : i < 7
    · simp [hi]; cases c.testBit i <;> simp
    · by_cases h7 : 7 = i
      · simp [h7]
      · have : c.testBit i = false := Nat.testBit_lt_two_pow (Nat.lt_of_lt_of_le h (show 2 ^ 8 ≤ 2 ^ i from Nat.pow_le_pow_right (by decide) (by omega)))
        simp [hi, h7, this]
  show IntKind.u8.wrap ((BitVec.ofInt 8 (c : Int) ||| BitVec.ofInt 8 ((2 ^ 7 : Nat) : Int)).toNat : Int) = _
  rw [BitVec.toNat_or, BitVec.ofInt_natCast, BitVec.ofInt_natCast, BitVec.toNat_ofNat, BitVec.toNat_ofNat, Nat.mod_eq_of_lt (show c < 2 ^ 8 by omega), Nat.mod_eq_of_lt (show 2 ^ 7 < 2 ^ 8 by decide), hor, IntKind.wrap_u8]
  omega

end Go.Proofs.Ytdpajcamgipgkaa
