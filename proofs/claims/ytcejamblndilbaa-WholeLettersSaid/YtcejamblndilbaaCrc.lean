/- The plain mathematics of the sum of bytes: the code's reckoning and the document's are one, and turned bytes give another sum. No program in sight. -/
import Derived.WalkKit
namespace Go.Proofs.Ytcejamblndilbaa.Crc

def poly : Nat := 2197175160
def stp (t : Nat) : Nat := t / 2 ^^^ (if t % 2 = 1 then poly else 0)
def stpN : Nat → Nat → Nat
  | 0, t => t
  | k + 1, t => stp (stpN k t)
def feed (s c : Nat) : Nat := stpN 8 (s ^^^ c)
def run (s : Nat) (bs : List UInt8) : Nat := bs.foldl (fun s c => feed s c.toNat) s
def crc (bs : List UInt8) : Nat := 4294967295 - run 4294967295 bs

theorem stp_lt {t : Nat} (h : t < 4294967296) : stp t < 4294967296 := by
  unfold stp poly
  refine Nat.xor_lt_two_pow (n := 32) (by omega) ?_
  split <;> omega

theorem stpN_lt {t : Nat} (k : Nat) (h : t < 4294967296) : stpN k t < 4294967296 := by
  induction k with
  | zero => exact h
  | succ k ih => exact stp_lt ih

theorem xor_lt32 {a b : Nat} (ha : a < 4294967296) (hb : b < 4294967296) : a ^^^ b < 4294967296 := Nat.xor_lt_two_pow (n := 32) ha hb

theorem feed_lt {s c : Nat} (h : s < 4294967296) (hc : c < 256) : feed s c < 4294967296 := stpN_lt _ (xor_lt32 h (by omega))

theorem run_append (s : Nat) (a b : List UInt8) : run s (a ++ b) = run (run s a) b := by simp [run, List.foldl_append]
theorem run_cons (s : Nat) (c : UInt8) (b : List UInt8) : run s (c :: b) = run (feed s c.toNat) b := rfl
theorem run_nil (s : Nat) : run s [] = s := rfl

theorem run_lt (bs : List UInt8) : ∀ {s : Nat}, s < 4294967296 → run s bs < 4294967296 := by
  induction bs with
  | nil => intro s h; exact h
  | cons c r ih => intro s h; rw [run_cons]; exact ih (feed_lt h c.toNat_lt)

/-- One byte on: the state after k + 1 bytes. -/
theorem run_take (bs : List UInt8) (s k : Nat) (h : k < bs.length) : run s (bs.take (k + 1)) = feed (run s (bs.take k)) (bs.getD k 0).toNat := by
  rw [List.take_succ_eq_append_getElem h, run_append, run_cons, run_nil, List.getD_eq_getElem?_getD, List.getElem?_eq_getElem h]
  rfl

/-- The document's step by one bit, beside the code's. -/
theorem ref_step (t d : Nat) : (t ^^^ d) / 2 ^^^ (if (t ^^^ d) % 2 ≠ d % 2 then poly else 0) = stp t ^^^ d / 2 := by
  have h1 : (t ^^^ d) / 2 = t / 2 ^^^ d / 2 := Nat.xor_div_two
  have h2 : ((t ^^^ d) % 2 ≠ d % 2) ↔ t % 2 = 1 := by
    have := @Nat.xor_mod_two_eq_one t d
    omega
  unfold stp
  rw [h1, Nat.xor_assoc, Nat.xor_assoc]
  congr 1
  rw [Nat.xor_comm (d / 2)]
  congr 1
  by_cases h : t % 2 = 1
  · rw [if_pos h, if_pos (h2.2 h)]
  · rw [if_neg h, if_neg (fun x => h (h2.1 x))]

theorem ref_next (t c k : Nat) : (stpN k t ^^^ c / 2 ^ k) / 2 ^^^ (if (stpN k t ^^^ c / 2 ^ k) % 2 ≠ c / 2 ^ k % 2 then poly else 0) = stpN (k + 1) t ^^^ c / 2 ^ (k + 1) := by
  rw [ref_step, Nat.div_div_eq_div_mul, ← Nat.pow_succ]
  rfl

theorem ref_start (s c : Nat) : stpN 0 (s ^^^ c) ^^^ c / 2 ^ 0 = s := by
  simp [stpN, Nat.xor_assoc]

theorem ref_end (s c : Nat) (h : c < 256) : stpN 8 (s ^^^ c) ^^^ c / 2 ^ 8 = feed s c := by
  rw [show c / 2 ^ 8 = 0 from Nat.div_eq_of_lt h, Nat.xor_zero]
  rfl

theorem stp_top {t : Nat} (h : t < 4294967296) : (stp t).testBit 31 = decide (t % 2 = 1) := by
  unfold stp
  rw [Nat.testBit_xor, Nat.testBit_lt_two_pow (show t / 2 < 2 ^ 31 by omega)]
  by_cases e : t % 2 = 1
  · rw [if_pos e, decide_eq_true e]; decide
  · rw [if_neg e, decide_eq_false e]; decide

theorem stp_inj {a b : Nat} (ha : a < 4294967296) (hb : b < 4294967296) (h : stp a = stp b) : a = b := by
  have e : decide (a % 2 = 1) = decide (b % 2 = 1) := by rw [← stp_top ha, ← stp_top hb, h]
  have e' : (a % 2 = 1) ↔ (b % 2 = 1) := by simpa using e
  have hp : (if a % 2 = 1 then poly else 0) = (if b % 2 = 1 then poly else 0) := by
    by_cases x : a % 2 = 1
    · rw [if_pos x, if_pos (e'.1 x)]
    · rw [if_neg x, if_neg (fun y => x (e'.2 y))]
  unfold stp at h
  rw [hp] at h
  have h2 : a / 2 = b / 2 := by
    have := congrArg (· ^^^ (if b % 2 = 1 then poly else 0)) h
    simpa [Nat.xor_assoc] using this
  omega

theorem stpN_inj (k : Nat) : ∀ {a b : Nat}, a < 4294967296 → b < 4294967296 → stpN k a = stpN k b → a = b := by
  induction k with
  | zero => intro a b _ _ h; exact h
  | succ k ih => intro a b ha hb h; exact ih ha hb (stp_inj (stpN_lt k ha) (stpN_lt k hb) h)

theorem xor_cancel {a b c : Nat} (h : a ^^^ c = b ^^^ c) : a = b := by
  have := congrArg (· ^^^ c) h
  simpa [Nat.xor_assoc] using this

theorem feed_state {a b c : Nat} (ha : a < 4294967296) (hb : b < 4294967296) (hc : c < 256) (h : feed a c = feed b c) : a = b :=
  xor_cancel (stpN_inj 8 (xor_lt32 ha (by omega)) (xor_lt32 hb (by omega)) h)

theorem feed_byte {s c d : Nat} (hs : s < 4294967296) (hc : c < 256) (hd : d < 256) (h : feed s c = feed s d) : c = d := by
  have := stpN_inj 8 (xor_lt32 hs (by omega)) (xor_lt32 hs (by omega)) h
  rw [Nat.xor_comm s c, Nat.xor_comm s d] at this
  exact xor_cancel this

theorem run_state (bs : List UInt8) : ∀ {a b : Nat}, a < 4294967296 → b < 4294967296 → run a bs = run b bs → a = b := by
  induction bs with
  | nil => intro a b _ _ h; exact h
  | cons c r ih => intro a b ha hb h; exact feed_state ha hb c.toNat_lt (ih (feed_lt ha c.toNat_lt) (feed_lt hb c.toNat_lt) h)

theorem run_byte (p q : List UInt8) (s : Nat) (hs : s < 4294967296) (c d : UInt8) (h : run s (p ++ c :: q) = run s (p ++ d :: q)) : c = d := by
  rw [run_append, run_append, run_cons, run_cons] at h
  have hr := run_lt p hs
  exact UInt8.toNat_inj.1 (feed_byte hr c.toNat_lt d.toNat_lt (run_state q (feed_lt hr c.toNat_lt) (feed_lt hr d.toNat_lt) h))

theorem crc_lt (bs : List UInt8) : crc bs < 4294967296 := by unfold crc; omega

/-- A byte turned: another sum. -/
theorem crc_byte (p q : List UInt8) (c d : UInt8) (h : crc (p ++ c :: q) = crc (p ++ d :: q)) : c = d := by
  have h1 := run_lt (p ++ c :: q) (s := 4294967295) (by omega)
  have h2 := run_lt (p ++ d :: q) (s := 4294967295) (by omega)
  unfold crc at h
  have h3 : run 4294967295 (p ++ c :: q) = run 4294967295 (p ++ d :: q) := by omega
  exact run_byte p q 4294967295 (by omega) c d h3

theorem crc_set (l : List UInt8) (i : Nat) (hi : i < l.length) (d : UInt8) (h : crc (l.set i d) = crc l) : d = l[i] := by
  have e1 : l.set i d = l.take i ++ d :: l.drop (i + 1) := List.set_eq_take_append_cons_drop .. |>.trans (by rw [if_pos hi])
  have e2 : l = l.take i ++ l[i] :: l.drop (i + 1) := by rw [← List.drop_eq_getElem_cons hi, List.take_append_drop]
  rw [e1] at h
  refine crc_byte (l.take i) (l.drop (i + 1)) d l[i] (h.trans ?_)
  exact congrArg crc e2

/-- the code's step by one bit, as the walk spells it -/
theorem code_step (n : Nat) (h : n < 4294967296) :
    bits .xor .u32 ((n : Int) / 2) (bits .and .u32 2197175160 (IntKind.u32.wrap (-(bits .and .u32 (n : Int) 1)))) = ((stp n : Nat) : Int) := by
  have hb : ∀ a b : Nat, a < 2 ^ 32 → b < 2 ^ 32 → bits .xor .u32 (a : Int) (b : Int) = ((a ^^^ b : Nat) : Int) := fun a b ha hb => by
    have hx : a ^^^ b < 2 ^ 32 := Nat.xor_lt_two_pow ha hb
    show IntKind.u32.wrap ((BitVec.ofInt 32 (a : Int) ^^^ BitVec.ofInt 32 (b : Int)).toNat : Int) = _
    rw [BitVec.toNat_xor, BitVec.ofInt_natCast, BitVec.ofInt_natCast, BitVec.toNat_ofNat, BitVec.toNat_ofNat, Nat.mod_eq_of_lt ha, Nat.mod_eq_of_lt hb, IntKind.wrap_u32]
    omega
  have ha1 : bits .and .u32 (n : Int) 1 = ((n % 2 : Nat) : Int) := by
    show IntKind.u32.wrap ((BitVec.ofInt 32 (n : Int) &&& BitVec.ofInt 32 1).toNat : Int) = _
    rw [BitVec.toNat_and, BitVec.ofInt_natCast, BitVec.toNat_ofNat, Nat.mod_eq_of_lt h, show (BitVec.ofInt 32 1).toNat = 1 from rfl, Nat.and_one_is_mod, IntKind.wrap_u32]
    omega
  rw [ha1]
  have e2 : (n : Int) / 2 = ((n / 2 : Nat) : Int) := by omega
  rw [e2]
  unfold stp
  rcases Nat.mod_two_eq_zero_or_one n with e | e
  · rw [e, if_neg (by omega)]
    rw [show bits .and .u32 2197175160 (IntKind.u32.wrap (-(((0 : Nat) : Nat) : Int))) = ((0 : Nat) : Int) from by decide]
    exact hb _ _ (by omega) (by omega)
  · rw [e, if_pos rfl]
    rw [show bits .and .u32 2197175160 (IntKind.u32.wrap (-(((1 : Nat) : Nat) : Int))) = ((2197175160 : Nat) : Int) from by decide]
    exact hb _ _ (by omega) (by omega)

end Go.Proofs.Ytcejamblndilbaa.Crc
