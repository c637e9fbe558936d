/- Reading bytes: pack.Reader, Read, Num, Count. -/
import Derived.Test.YtcejamblndilbaaKit
import Derived.OneCell
import Derived.Defers
import Derived.Recover
namespace Go.Proofs.Ytcejamblndilbaa
open Go.RowKit

theorem drop_getD (bs : List UInt8) (k i : Nat) : (bs.drop k).getD i 0 = bs.getD (k + i) 0 := by
  rw [List.getD_eq_getElem?_getD, List.getD_eq_getElem?_getD, List.getElem?_drop]

/-- The reader in block R still holds the bytes bs. -/
def Rd (w : World) (R : Nat) (bs : List UInt8) : Prop :=
  ∃ a n c, w.heap[R]? = some (.cells #[.slice a n c] 121 (0, 0)) ∧ Row8 w a n bs ∧ n ≤ c ∧ c ≤ maxLen ∧ (a = none → c = 0) ∧ ∀ b off, a = some ⟨b, off, none⟩ → 0 < n → b < R

/-- what a reader panics with -/
def Wrong (code : Int) : Ending := .panicked [{ v := .iface 123 (.agg #[.int .i64 code]), recovered := false }]

/-- The bytes don't lie in the reader's own block. -/
theorem Rd.apart {w : World} {R : Nat} {a : Option Addr} {n c len : Nat} {bs : List UInt8} {T : TypeId} (hR : w.heap[R]? = some (.cells #[.slice a n c] T (0, 0))) {a' : Option Addr} (h : Row8 w a' len bs) : ∀ b off, a' = some ⟨b, off, none⟩ → 0 < len → b ≠ R := by
  rintro b off rfl hl rfl
  obtain ⟨b', off', he, hc⟩ := h.2 0 hl
  simp only [Option.some.injEq, Addr.mk.injEq, and_true] at he
  obtain ⟨rfl, rfl⟩ := he
  simp only [World.cell?, hR, Nat.add_zero] at hc
  cases off with
  | zero => simp at hc
  | succ m => simp at hc

theorem Row8.drop {w : World} {a : Option Addr} {len : Nat} {bs : List UInt8} (h : Row8 w a len bs) (k : Nat) (hk : k ≤ len) : Row8 w (Option.map (fun x => x.add k) a) (len - k) (bs.drop k) := by
  refine ⟨by rw [List.length_drop, h.1], fun i hi => ?_⟩
  obtain ⟨b, off, ha, hc⟩ := h.2 (k + i) (by omega)
  subst ha
  refine ⟨b, off + k, by rw [Option.map_some, add_plain], ?_⟩
  rw [drop_getD, Nat.add_assoc]
  exact hc

theorem low_drop {w : World} {a : Option Addr} {n R : Nat} {bs : List UInt8} (h : ∀ b off, a = some ⟨b, off, none⟩ → 0 < n → b < R) (hrow : Row8 w a n bs) (k : Nat) : ∀ b off, Option.map (fun x => x.add k) a = some ⟨b, off, none⟩ → 0 < n - k → b < R := by
  intro b off e hn
  obtain ⟨b', off', rfl, _⟩ := hrow.2 0 (by omega)
  rw [Option.map_some, add_plain] at e
  injection e with e
  injection e with e1
  rw [← e1]
  exact h b' off' rfl (by omega)

set_option maxHeartbeats 800000 in
theorem fail_any (R : Nat) (e : Int) (w : World) :
    Calls Try.prog 47 #[.pointer (some ⟨R, 0, none⟩), .int .i64 e] w fun e' w' => e' = Wrong (if e = 0 then 30 else e) ∧ w = w' := by
  by_cases h : e = 0
  · subst h
    go_enter Try.func47, Try.ntmps47
    go_wp2
    exact ⟨rfl, rfl, rfl⟩
  · have h' : (e == 0) = false := by simpa using h
    go_enter Try.func47, Try.ntmps47
    go_wp2
    exact ⟨rfl, rfl, rfl⟩

set_option maxHeartbeats 800000 in
theorem take_ok (R : Nat) (k : Nat) (bs : List UInt8) (w : World) (hr : Rd w R bs) (hk : k ≤ bs.length) :
    Calls Try.prog 102 #[.pointer (some ⟨R, 0, none⟩), .int .i64 (k : Int)] w fun e w' => ∃ a c, e = .returned (.slice a k c) ∧ Row8 w' a k (bs.take k) ∧ k ≤ c ∧ c ≤ maxLen ∧ (a = none → c = 0) ∧ Rd w' R (bs.drop k) ∧ w.grownBy w' (some R) := by
  obtain ⟨a, n, c, hR, hrow, hnc, hcm, hnil, hlow⟩ := hr
  have hlen := hrow.1
  have hkn : k ≤ n := by omega
  have hcell := cell_of_one hR
  have hfree := free_of_one hR
  have hc' : c ≤ 9223372036854775807 := by simpa [maxLen] using hcm
  have hi1 : (k : Int) ≤ (c : Int) := by omega
  have hi2 : (k : Int) ≤ (n : Int) := by omega
  have HR := Lib.hid hR
  have HROW := Lib.hid hrow
  have HL := Lib.hid hlen
  have HN := Lib.hid hnil
  have HLOW := Lib.hid hlow
  clear hR hrow hlen hk hnil hlow
  go_enter Try.func102, Try.ntmps102
  go_wp2_with fail
  all_goals
    go_ret
    refine ⟨a, _, rfl, (HROW.out.take k hkn).set _ (Rd.apart HR.out (HROW.out.take k hkn)), ?_, ?_, ?_, ⟨_, _, _, one_setCell HR.out, ?_, ?_, ?_, ?_, ?_⟩, grown_set _ _ _ _⟩
    all_goals first
      | omega
      | (exact HN.out)
      | exact low_drop HLOW.out HROW.out k
      | (exact fun b off e h0 => HLOW.out b off e (by omega))
      | (intro h0; have := HN.out h0; omega)
      | (intro h0; have := HN.out (by simpa using h0); omega)
      | exact (HROW.out.drop k hkn).set _ (Rd.apart HR.out (HROW.out.drop k hkn))
      | (have h0 : n - k = 0 := by omega
         have hb : bs.drop k = [] := List.drop_of_length_le (by rw [HL.out]; omega)
         rw [h0, hb]
         exact Row8.nil _ _)

set_option maxHeartbeats 800000 in
theorem take_no (R : Nat) (k : Nat) (bs : List UInt8) (w : World) (hr : Rd w R bs) (hk : bs.length < k) :
    Calls Try.prog 102 #[.pointer (some ⟨R, 0, none⟩), .int .i64 (k : Int)] w fun e w' => e = Wrong 30 ∧ w = w' := by
  obtain ⟨a, n, c, hR, hrow, hnc, hcm, hnil, hlow⟩ := hr
  have hlen := hrow.1
  have hcell := cell_of_one hR
  have hi1 : (n : Int) < (k : Int) := by omega
  clear hR hrow hlen hk hnil hlow
  go_enter Try.func102, Try.ntmps102
  go_wp2_with fail
  refine (fail_any R 30 w).mono ?_
  rintro e w' ⟨rfl, rfl⟩
  simp only [Wrong]
  go_wp2
  exact ⟨rfl, rfl, rfl⟩

/-- the number's groups of seven bits, from the i-th on; and the rest -/
def numGo : Nat → Nat → List UInt8 → Option (Nat × List UInt8)
  | _, _, [] => none
  | i, u, c :: r =>
    if i = 9 ∧ 1 < c.toNat ∨ 0 < i ∧ c.toNat = 0 then none
    else if c.toNat < 128 then some (u + c.toNat % 128 * 2 ^ (7 * i), r) else numGo (i + 1) (u + c.toNat % 128 * 2 ^ (7 * i)) r
def zag (u : Nat) : Int := if u % 2 = 1 then -((u / 2 : Nat) : Int) - 1 else ((u / 2 : Nat) : Int)
def getNum (bs : List UInt8) : Option (Int × List UInt8) := (numGo 0 0 bs).map fun x => (zag x.1, x.2)

theorem numGo_fail (i u : Nat) (c : UInt8) (r : List UInt8) (h : i = 9 ∧ 1 < c.toNat ∨ 0 < i ∧ c.toNat = 0) : numGo i u (c :: r) = none := by
  rw [numGo, if_pos h]
theorem numGo_last (i u : Nat) (c : UInt8) (r : List UInt8) (h : ¬ (i = 9 ∧ 1 < c.toNat ∨ 0 < i ∧ c.toNat = 0)) (hc : c.toNat < 128) : numGo i u (c :: r) = some (u + c.toNat % 128 * 2 ^ (7 * i), r) := by
  rw [numGo, if_neg h, if_pos hc]
theorem numGo_more (i u : Nat) (c : UInt8) (r : List UInt8) (h : ¬ (i = 9 ∧ 1 < c.toNat ∨ 0 < i ∧ c.toNat = 0)) (hc : ¬ c.toNat < 128) : numGo i u (c :: r) = numGo (i + 1) (u + c.toNat % 128 * 2 ^ (7 * i)) r := by
  rw [numGo, if_neg h, if_neg hc]

theorem and127 (c : Nat) (h : c < 256) : bits .and .u8 (c : Int) 127 = ((c % 128 : Nat) : Int) := by
  show IntKind.u8.wrap ((BitVec.ofInt 8 (c : Int) &&& BitVec.ofInt 8 ((2 ^ 7 - 1 : Nat) : Int)).toNat : Int) = _
  rw [BitVec.toNat_and, BitVec.ofInt_natCast, BitVec.ofInt_natCast, BitVec.toNat_ofNat, BitVec.toNat_ofNat, Nat.mod_eq_of_lt (a := c) h, Nat.mod_eq_of_lt (a := 2 ^ 7 - 1) (by omega), Nat.and_two_pow_sub_one_eq_mod, IntKind.wrap_u8]
  omega

theorem or64 (un x s : Nat) (hs : s ≤ 63) (hun : un < 2 ^ s) (hx : x % 128 * 2 ^ s < 2 ^ 64) :
    bits .or .u64 (un : Int) (IntKind.u64.wrap ((x : Int) % 128 * 2 ^ s)) = ((un + x % 128 * 2 ^ s : Nat) : Int) ∧ un + x % 128 * 2 ^ s < 2 ^ 64 := by
  have hp : 2 ^ s ≤ 2 ^ 63 := Nat.pow_le_pow_right (by decide) hs
  have e : (x : Int) % 128 * 2 ^ s = ((x % 128 * 2 ^ s : Nat) : Int) := by
    rw [Int.natCast_mul, Int.natCast_emod, Int.natCast_pow]
    rfl
  have hw : IntKind.u64.wrap ((x % 128 * 2 ^ s : Nat) : Int) = ((x % 128 * 2 ^ s : Nat) : Int) := by rw [IntKind.wrap_u64]; omega
  have hor : x % 128 * 2 ^ s ||| un = x % 128 * 2 ^ s + un := by rw [Nat.mul_comm, ← Nat.two_pow_add_eq_or_of_lt hun]
  have hlt : un + x % 128 * 2 ^ s < 2 ^ 64 := by
    have := Nat.or_lt_two_pow (n := 64) hx (show un < 2 ^ 64 by omega)
    omega
  refine ⟨?_, hlt⟩
  rw [e, hw]
  show IntKind.u64.wrap ((BitVec.ofInt 64 (un : Int) ||| BitVec.ofInt 64 ((x % 128 * 2 ^ s : Nat) : Int)).toNat : Int) = _
  rw [BitVec.toNat_or, BitVec.ofInt_natCast, BitVec.ofInt_natCast, BitVec.toNat_ofNat, BitVec.toNat_ofNat, Nat.mod_eq_of_lt (show un < 2 ^ 64 by omega), Nat.mod_eq_of_lt hx, Nat.or_comm, hor, IntKind.wrap_u64]
  omega

theorem and1 (v : Nat) (hv : v < 2 ^ 64) : bits .and .u64 (v : Int) 1 = (v : Int) % 2 := by
  have := and_one_u64 (v : Int) (by omega) (by omega)
  exact this

theorem zag_bits (v : Nat) (hv : v < 2 ^ 64) : bits .xor .i64 ((v : Int) / 2) (-((v : Int) % 2)) = zag v := by
  have e2 : (v : Int) / 2 = ((v / 2 : Nat) : Int) := by omega
  rw [e2]
  have h63 : v / 2 < 2 ^ 63 := by omega
  unfold zag
  rcases Nat.mod_two_eq_zero_or_one v with h | h
  · rw [if_neg (by omega)]
    have : -((v : Int) % 2) = 0 := by omega
    rw [this]
    show IntKind.i64.wrap ((BitVec.ofInt 64 ((v / 2 : Nat) : Int) ^^^ BitVec.ofInt 64 0).toNat : Int) = _
    rw [show BitVec.ofInt 64 0 = 0#64 from by decide, BitVec.xor_zero, BitVec.ofInt_natCast, BitVec.toNat_ofNat, Nat.mod_eq_of_lt (by omega), IntKind.wrap_i64]
    omega
  · rw [if_pos h]
    have : -((v : Int) % 2) = -1 := by omega
    rw [this]
    show IntKind.i64.wrap ((BitVec.ofInt 64 ((v / 2 : Nat) : Int) ^^^ BitVec.ofInt 64 (-1)).toNat : Int) = _
    rw [show BitVec.ofInt 64 (-1) = BitVec.allOnes 64 from by decide, BitVec.xor_allOnes, BitVec.toNat_not, BitVec.ofInt_natCast, BitVec.toNat_ofNat, Nat.mod_eq_of_lt (by omega), IntKind.wrap_i64]
    omega

/-- A reading: what it returns, or that it panics. -/
def ReadPost {α : Type} (w : World) (R : Nat) (v : α → Value) (res : Option (α × List UInt8)) (e : Ending) (w' : World) : Prop :=
  w.grownBy w' (some R) ∧ (∀ n rest, res = some (n, rest) → e = .returned (v n) ∧ Rd w' R rest) ∧ (res = none → e = Wrong 30)

theorem ReadPost.ok {α : Type} {w : World} {R : Nat} {v : α → Value} {res : Option (α × List UInt8)} {e : Ending} {w' : World} (h : ReadPost w R v res e w') {n : α} {rest : List UInt8} (hr : res = some (n, rest)) : e = .returned (v n) ∧ Rd w' R rest ∧ w.grownBy w' (some R) :=
  ⟨(h.2.1 n rest hr).1, (h.2.1 n rest hr).2, h.1⟩
theorem ReadPost.no {α : Type} {w : World} {R : Nat} {v : α → Value} {res : Option (α × List UInt8)} {e : Ending} {w' : World} (h : ReadPost w R v res e w') (hr : res = none) : e = Wrong 30 ∧ w.grownBy w' (some R) := ⟨h.2.2 hr, h.1⟩
theorem ReadPost.mk_ok {α : Type} {w : World} {R : Nat} {v : α → Value} {n : α} {rest : List UInt8} {e : Ending} {w' : World} (hg : w.grownBy w' (some R)) (he : e = .returned (v n)) (hr : Rd w' R rest) : ReadPost w R v (some (n, rest)) e w' :=
  ⟨hg, fun m r hm => by injection hm with hm; injection hm with h1 h2; subst h1 h2; exact ⟨he, hr⟩, fun h => by cases h⟩
theorem ReadPost.mk_no {α : Type} {w : World} {R : Nat} {v : α → Value} {e : Ending} {w' : World} (hg : w.grownBy w' (some R)) (he : e = Wrong 30) : ReadPost w R v none e w' :=
  ⟨hg, (fun _ _ h => by cases h), fun _ => he⟩

theorem getNum_of (bs : List UInt8) (o : Option (Nat × List UInt8)) (h : o = numGo 0 0 bs) : getNum bs = o.map fun x => (zag x.1, x.2) := by rw [getNum, h]

def i64v (n : Int) : Value := .int .i64 n

set_option maxRecDepth 100000 in
set_option maxHeartbeats 3200000 in
theorem num_any (R : Nat) (bs : List UInt8) (w : World) (hr : Rd w R bs) :
    Calls Try.prog 82 #[.pointer (some ⟨R, 0, none⟩)] w (ReadPost w R i64v (getNum bs)) := by
  have HR := Lib.hid hr
  clear hr
  go_enter Try.func82, Try.ntmps82
  go_wp2_with fail
  go_loopw [3, 4] (fun u s wr => ∃ (un i : Nat) (rest : List UInt8), i ≤ 9 ∧ un < 2 ^ (7 * i) ∧ u = .int .u64 (un : Nat) ∧ s = .int .i64 ((7 * i : Nat) : Int) ∧ Hid (numGo i un rest = numGo 0 0 bs) ∧ Rd wr R rest ∧ w.grownBy wr (some R)) (fun _ s _ => 70 - (intOf s).toNat)
  case atStart => exact ⟨0, 0, bs, by omega, by omega, rfl, rfl, rfl, HR.out, World.grownBy.refl _ _⟩
  case round =>
    obtain ⟨un, i, rest, hi, hun, rfl, rfl, hgo, hrd, hg⟩ := hrel
    obtain ⟨s, hs⟩ : ∃ s, s = 7 * i := ⟨_, rfl⟩
    rw [← hs]
    have hs63 : s ≤ 63 := by omega
    have HS := Lib.hid hs
    have HUN := Lib.hid hun
    clear hs hun
    have HRD := Lib.hid hrd
    have HG := Lib.hid hg
    clear hrd hg
    cases rest with
    | nil =>
      go_wp2_with fail
      refine (take_no R 1 [] _ HRD.out (by decide)).mono ?_
      rintro e w' ⟨rfl, rfl⟩
      simp only [Wrong]
      go_wp2
      refine ⟨rfl, ?_⟩
      rw [getNum_of bs none (by rw [← hgo.out]; rfl)]
      exact ReadPost.mk_no HG.out rfl
    | cons c rest =>
      go_wp2_with fail
      refine (take_ok R 1 (c :: rest) _ HRD.out (by simp)).mono ?_
      rintro e w' ⟨a, cap, rfl, hrow, hc1, hc2, hnil, hrd, hg⟩
      obtain ⟨b, off, rfl, x, hx, hxb, hcell⟩ := hrow.at 0 (by omega)
      rw [Nat.add_zero] at hcell
      have hxc : c.toNat = x := hxb.out
      have HXC := Lib.hid hxc
      have hg' := grown_step HG.out hg (.inl rfl)
      replace hrd : Rd w' R rest := hrd
      clear hxc hxb hrow hnil
      have hand := and127 x hx
      by_cases hf : 63 ≤ s ∧ 1 < x
      · obtain ⟨hf1, hf2⟩ := hf
        have hf1' : ((s : Int) == 63) = true := by simp; omega
        have hf2' : (1 : Int) < (x : Int) := by omega
        go_wp2_with fail
        refine (fail_any R 30 _).mono ?_
        rintro e w'' ⟨rfl, rfl⟩
        simp only [Wrong]
        go_wp2
        refine ⟨rfl, ?_⟩
        rw [getNum_of bs none (by rw [← hgo.out, numGo_fail _ _ _ _ (.inl ⟨by have := HS.out; omega, by rw [HXC.out]; exact hf2⟩)])]
        exact ReadPost.mk_no hg' rfl
      by_cases h0 : 0 < s ∧ x = 0
      · obtain ⟨h1, rfl⟩ := h0
        have h1' : (0 : Int) < (s : Int) := by omega
        go_wp2_with fail
        all_goals
          refine (fail_any R 30 _).mono ?_
          rintro e w'' ⟨rfl, rfl⟩
          simp only [Wrong]
          go_wp2
          refine ⟨rfl, ?_⟩
          rw [getNum_of bs none (by rw [← hgo.out, numGo_fail _ _ _ _ (.inr ⟨by have := HS.out; omega, HXC.out⟩)])]
          exact ReadPost.mk_no hg' rfl
      · have hno : ¬ (i = 9 ∧ 1 < c.toNat ∨ 0 < i ∧ c.toNat = 0) := by
          have h1 := HS.out
          have h2 := HXC.out
          rintro (⟨h3, h4⟩ | ⟨h3, h4⟩)
          · exact hf ⟨by omega, by omega⟩
          · exact h0 ⟨by omega, by omega⟩
        have HNO := Lib.hid hno
        clear hno
        have hcase : (63 ≤ s ∧ x ≤ 1 ∧ 1 ≤ x) ∨ (s ≤ 62 ∧ 1 ≤ s ∧ 1 ≤ x) ∨ (s = 0) := by omega
        clear hf h0
        have hxs : x % 128 * 2 ^ s < 2 ^ 64 ∧ (s ≤ 62 → un + x % 128 * 2 ^ s < 2 ^ (7 * (i + 1))) := by
          have hs7 := HS.out
          have hun := HUN.out
          rw [← hs7] at hun
          have hlt : x % 128 * 2 ^ s + 2 ^ s ≤ 128 * 2 ^ s := by
            have := Nat.mul_le_mul_right (2 ^ s) (show x % 128 + 1 ≤ 128 by omega)
            rw [Nat.add_mul, Nat.one_mul] at this
            exact this
          have hpp : 128 * 2 ^ s = 2 ^ (s + 7) := by rw [Nat.pow_add, Nat.mul_comm]
          constructor
          · by_cases h : 63 ≤ s
            · obtain rfl : s = 63 := by omega
              have : x ≤ 1 := by omega
              have : x % 128 ≤ 1 := by omega
              have := Nat.mul_le_mul_right (2 ^ 63) this
              omega
            · have : 2 ^ (s + 7) ≤ 2 ^ 63 := Nat.pow_le_pow_right (by decide) (by omega)
              omega
          · intro h
            rw [show 7 * (i + 1) = s + 7 by omega]
            omega
        have hor := or64 un x s hs63 (by rw [HS.out]; exact HUN.out) hxs.1
        obtain ⟨V, hV⟩ : ∃ V, V = un + x % 128 * 2 ^ s := ⟨_, rfl⟩
        rw [← hV] at hor hxs
        obtain ⟨hor1, hor2⟩ := hor
        have hV64 : V < 18446744073709551616 := by omega
        have ha1 := and1 V hor2
        have HZ := Lib.hid (zag_bits V hor2)
        have HV := Lib.hid hV
        have HXS := Lib.hid hxs.2
        clear hV hxs hor2
        have fin : x < 128 → numGo i un (c :: rest) = some (V, rest) := fun hlt => by
          rw [numGo_last _ _ _ _ HNO.out (by rw [HXC.out]; exact hlt), HXC.out, ← HS.out, ← HV.out]
        have nxt : ¬ x < 128 → numGo i un (c :: rest) = numGo (i + 1) V rest := fun hlt => by
          rw [numGo_more _ _ _ _ HNO.out (by rw [HXC.out]; exact hlt), HXC.out, ← HS.out, ← HV.out]
        have HFIN := Lib.hid fin
        have HNXT := Lib.hid nxt
        clear fin nxt
        rcases hcase with ⟨h1, h2, h3⟩ | ⟨h1, h2, h3⟩ | h1
        · have b1 : ((s : Int) == 63) = true := by simp; omega
          have b2 : ¬ (1 : Int) < (x : Int) := by omega
          have b3 : (0 : Int) < (s : Int) := by omega
          have b4 : ((x : Int) == 0) = false := by simp; omega
          have b5 : (x : Int) < 128 := by omega
          go_wp2_with fail
          go_ret
          rw [getNum_of bs _ (hgo.out.symm.trans (HFIN.out (by omega))).symm]
          exact ReadPost.mk_ok hg' (by rw [← HZ.out]; rfl) hrd
        · have b1 : ((s : Int) == 63) = false := by simp; omega
          have b3 : (0 : Int) < (s : Int) := by omega
          have b4 : ((x : Int) == 0) = false := by simp; omega
          by_cases b5 : x < 128
          · go_wp2_with fail
            go_ret
            rw [getNum_of bs _ (hgo.out.symm.trans (HFIN.out b5)).symm]
            exact ReadPost.mk_ok hg' (by rw [← HZ.out]; rfl) hrd
          · go_wp2_with fail
            go_roundw
            case rel => exact ⟨V, i + 1, rest, by have := HS.out; omega, HXS.out h1, rfl, by rw [HS.out]; go_num, (HNXT.out b5).symm.trans hgo.out, hrd, hg'⟩
            case measure => simp [intOf]; omega
        · have b1 : ((s : Int) == 63) = false := by simp; omega
          have b3 : ¬ (0 : Int) < (s : Int) := by omega
          have H1 := Lib.hid h1
          clear h1
          by_cases b5 : x < 128
          · go_wp2_with fail
            go_ret
            rw [getNum_of bs _ (hgo.out.symm.trans (HFIN.out b5)).symm]
            exact ReadPost.mk_ok hg' (by rw [← HZ.out]; rfl) hrd
          · go_wp2_with fail
            go_roundw
            case rel => exact ⟨V, i + 1, rest, by have := HS.out; have := H1.out; omega, HXS.out (by rw [H1.out]; omega), rfl, by rw [HS.out]; go_num, (HNXT.out b5).symm.trans hgo.out, hrd, hg'⟩
            case measure => simp [intOf]; omega

set_option maxRecDepth 100000 in
set_option maxHeartbeats 1600000 in
theorem caught (b : Nat) (x code : Int) (T : TypeId) (older : List PanicEntry) (w : World) (hb : w.heap[b]? = some (.cells #[.int .i64 x] T (0, 0))) :
    CallsD Try.prog 80 #[.pointer (some ⟨b, 0, none⟩)] (.panicking ({ v := .iface 123 (.agg #[.int .i64 code]), recovered := false } :: older)) w fun e u' w' =>
      e = .returned (.tuple #[]) ∧ u' = .panicking ({ v := .iface 123 (.agg #[.int .i64 code]), recovered := true } :: older) ∧ w' = (w.alloc (.cells #[.int .i64 code] 123)).setCell ⟨b, 0, none⟩ (.int .i64 code) := by
  have hc : ∀ o, (w.alloc o).cell? ⟨b, 0, none⟩ = some (.int .i64 x) := fun o => cell_of_one ((heap_alloc_old w o (lt_of_block hb)).trans hb)
  have hz : ∀ o, (w.alloc o).frozen? ⟨b, 0, none⟩ = false := fun o => free_of_one ((heap_alloc_old w o (lt_of_block hb)).trans hb)
  clear hb
  have hta : ∀ (v : Value) (w : World), (Instr.typeAssert (.iface 123 v) 20 123 true).run Try.prog w = .ok (.tuple #[v, .bool true]) w := fun _ _ => by kernel_rfl
  refine callsD_of_wpS Try.func80 rfl fun c₀ cs hu => ?_
  apply wpS_seq
  apply wpS_region
  simp [wpOpsS, go_sem, recoverD, hu, Try.ntmps80, Exit.thenS]
  refine wpS_of_wp ?_
  rw [show (#[Value.pointer (some ⟨b, 0, none⟩)] ++ (Array.replicate 11 undef).setIfInBounds 3 (Value.iface 123 (Value.agg #[Value.int IntKind.i64 code]))) = #[.pointer (some ⟨b, 0, none⟩), undef, undef, undef, .iface 123 (.agg #[.int .i64 code]), undef, undef, undef, undef, undef, undef, undef] from rfl]
  go_wp2
  simp [bodyPostS, results, Try.results80]

set_option maxHeartbeats 1600000 in
theorem caught_idle (b : Nat) (w : World) :
    CallsD Try.prog 80 #[.pointer (some ⟨b, 0, none⟩)] .returning w fun e u' w' => e = .returned (.tuple #[]) ∧ u' = .returning ∧ w' = w := by
  refine callsD_of_wpS Try.func80 rfl fun c₀ cs hu => ?_
  apply wpS_seq
  apply wpS_region
  simp [wpOpsS, go_sem, recoverD, hu, Try.ntmps80, Exit.thenS]
  refine wpS_of_wp ?_
  go_wp2
  cases c₀
  simp_all [bodyPostS, results, Try.results80]

/-- the world in which the function of a Read begins: the answer's variable in block w.heap.size, the reader behind it -/
def readStart (w : World) (a : Option Addr) (n c : Nat) : World := (w.alloc (.cells #[.int .i64 0] 30)).alloc (.cells #[.slice a n c] 121)

/-- What the function of a Read comes to: it returns, and the reader still holds 'rest'; or it panics with a code. -/
def FunPost (w : World) (D : List UInt8 → World → Prop) (F : Int → World → Prop) (e : Ending) (w' : World) : Prop :=
  w'.heap[w.heap.size]? = some (.cells #[.int .i64 0] 30 (0, 0)) ∧
  ((∃ rest, e = .returned (.tuple #[]) ∧ Rd w' (w.heap.size + 1) rest ∧ D rest w') ∨ (∃ code, e = Wrong code ∧ F code w'))

/-- .. and what Read then comes to. -/
def ReadsTo (w : World) (D : List UInt8 → World → Prop) (F : Int → World → Prop) (e : Ending) (w' : World) : Prop :=
  (∃ rest w1, D rest w1 ∧ e = .returned (.int .i64 (if rest = [] then 0 else 30)) ∧ w1.heap.size ≤ w'.heap.size ∧ w1.grownBy w' (some w.heap.size)) ∨
  (∃ code w1, F code w1 ∧ e = .returned (.int .i64 code) ∧ w1.grownBy w' (some w.heap.size))

set_option maxHeartbeats 1600000 in
theorem read_any (K : FuncId) (caps : Array Value) (a : Option Addr) (n c : Nat) (w : World) (D : List UInt8 → World → Prop) (F : Int → World → Prop)
    (hcf : ∀ (args : Array Value) (w : World), (callFunc K args).run Try.prog w = .ok (.enter K args) w)
    (hf : Calls Try.prog K (#[.pointer (some ⟨w.heap.size + 1, 0, none⟩)] ++ caps) (readStart w a n c) (FunPost w D F)) :
    Calls Try.prog 44 #[.slice a n c, .func (.func K) #[] caps] w (ReadsTo w D F) := by
  have hmf : ∀ (fn : Fn) (first cap : Array Value) (w : World), (Instr.makeFunc fn first cap).run Try.prog w = .ok (.func fn first cap) w := fun _ _ _ _ => rfl
  have HF := Lib.hid hf
  clear hf
  go_enter_defers Try.func44, Try.ntmps44
  go_wp2_with fail
  refine HF.out.mono ?_
  rintro e w1 ⟨hblk, ⟨rest, rfl, hrd, hD⟩ | ⟨code, rfl, hF⟩⟩
  · obtain ⟨a', n', c', hR, hrow, hnc, hcm, hnil, _⟩ := hrd
    have hcell := cell_of_one hR
    have hc4 := cell_of_one hblk
    have hf4 := free_of_one hblk
    have hlen := hrow.1
    have HR := Lib.hid hR
    have HB := Lib.hid hblk
    have HL := Lib.hid hlen
    clear hR hrow hblk hlen
    by_cases h0 : n' = 0
    · have h0' : ¬ (0 : Int) < (n' : Int) := by omega
      have hrest : rest = [] := List.eq_nil_of_length_eq_zero (by rw [HL.out]; exact h0)
      have HRS := Lib.hid hrest
      clear h0 hrest
      go_wp2_with fail
      refine leaves_cons (f := 80) (args := #[.pointer (some ⟨w.heap.size, 0, none⟩)]) (by simp) (by simp [go_sem]) ?_
      refine (caught_idle w.heap.size _).mono ?_
      rintro e u' w'' ⟨rfl, rfl, rfl⟩
      have hres : (w1.setCell ⟨w.heap.size, 0, none⟩ (.int .i64 0)).cell? ⟨w.heap.size, 0, none⟩ = some (.int .i64 0) := cell_of_one (one_setCell HB.out)
      have hend : ReadsTo w D F (.returned (.int .i64 0)) (w1.setCell ⟨w.heap.size, 0, none⟩ (.int .i64 0)) := .inl ⟨rest, w1, hD, by rw [if_pos HRS.out], by simp [World.setCell], grown_set _ _ _ _⟩
      simp [Leaves, settle, results, Try.results44, go_sem, hres, hend]
    · have h0' : (0 : Int) < (n' : Int) := by omega
      go_wp2_with fail
      refine leaves_cons (f := 80) (args := #[.pointer (some ⟨w.heap.size, 0, none⟩)]) (by simp) (by simp [go_sem]) ?_
      refine (caught_idle w.heap.size _).mono ?_
      rintro e u' w'' ⟨rfl, rfl, rfl⟩
      have hres : (w1.setCell ⟨w.heap.size, 0, none⟩ (.int .i64 30)).cell? ⟨w.heap.size, 0, none⟩ = some (.int .i64 30) := cell_of_one (one_setCell HB.out)
      have hend : ReadsTo w D F (.returned (.int .i64 30)) (w1.setCell ⟨w.heap.size, 0, none⟩ (.int .i64 30)) := .inl ⟨rest, w1, hD, by rw [if_neg (fun e => by have := HL.out; rw [e] at this; simp at this; omega)], by simp [World.setCell], grown_set _ _ _ _⟩
      simp [Leaves, settle, results, Try.results44, go_sem, hres, hend]
  · simp only [Wrong]
    go_wp2
    refine leaves_cons (f := 80) (args := #[.pointer (some ⟨w.heap.size, 0, none⟩)]) (by simp) (by simp [go_sem]) ?_
    refine (caught w.heap.size 0 code _ [] w1 hblk).mono ?_
    rintro e u' w'' ⟨rfl, rfl, rfl⟩
    have hblk' := (heap_alloc_old w1 (.cells #[.int .i64 code] 123) (lt_of_block hblk)).trans hblk
    have hres := cell_of_one (one_setCell (u := .int .i64 code) hblk')
    have hend : ReadsTo w D F (.returned (.int .i64 code)) ((w1.alloc (.cells #[.int .i64 code] 123)).setCell ⟨w.heap.size, 0, none⟩ (.int .i64 code)) := .inr ⟨code, w1, hF, rfl, grown_step (World.grownBy_alloc _ _ _) (grown_set _ _ _ _) (.inl rfl)⟩
    simp [Leaves, settle, results, Try.results44, go_sem, hres, hend]

theorem enters {f : FuncId} {fn : Func} {c : Code} (hf : Try.prog.funcs[f]? = some fn) (hname : (fn.name == "runtime.NumGoroutine") = false) (hb : fn.body = some c) (args : Array Value) (w : World) :
    (callFunc f args).run Try.prog w = .ok (.enter f args) w := by
  have h1 : fn.name ≠ "runtime.NumGoroutine" := by simpa using hname
  simp [callFunc, hf, h1, hb]

/-- A block of one number is no row of bytes: storing into it leaves the reader as it is. -/
theorem Rd.setOther {w : World} {R N : Nat} {bs : List UInt8} {v u : Value} {T : TypeId} (h : Rd w R bs) (hN : w.heap[N]? = some (.cells #[v] T (0, 0))) (hv : ∀ n, v ≠ .int .u8 n) (hne : N ≠ R) : Rd (w.setCell ⟨N, 0, none⟩ u) R bs := by
  obtain ⟨a, n, c, hR', hrow, h1, h2, h3⟩ := h
  refine ⟨a, n, c, (Below.heap_setCell w _ u R (fun e => hne e.symm)).trans hR', hrow.set _ ?_, h1, h2, h3⟩
  rintro b off rfl hl rfl
  obtain ⟨b', off', he, hc⟩ := hrow.2 0 hl
  simp only [Option.some.injEq, Addr.mk.injEq, and_true] at he
  obtain ⟨rfl, rfl⟩ := he
  simp only [World.cell?, hN, Nat.add_zero] at hc
  cases off with
  | zero => simp at hc; exact hv _ hc
  | succ m => simp at hc

/-- these blocks hold these objects -/
def Holds (l : List (Nat × Obj)) (w : World) : Prop := ∀ p ∈ l, w.heap[p.1]? = some p.2

/-- What a function over a reader does to variables. -/
def VarPost {α : Type} (w : World) (R : Nat) (S : List Nat) (res : Option (α × List UInt8)) (D : α → World → Prop) (e : Ending) (w' : World) : Prop :=
  (∀ v rest, res = some (v, rest) → e = .returned (.tuple #[]) ∧ Rd w' R rest ∧ D v w' ∧ Touch S w w') ∧ (res = none → e = Wrong 30 ∧ Touch [R] w w')
theorem VarPost.mk_ok {α : Type} {w : World} {R : Nat} {S : List Nat} {v : α} {rest : List UInt8} {D : α → World → Prop} {e : Ending} {w' : World} (he : e = .returned (.tuple #[])) (hr : Rd w' R rest) (hd : D v w') (ht : Touch S w w') : VarPost w R S (some (v, rest)) D e w' :=
  ⟨fun _ _ h => by injection h with h; injection h with h1 h2; subst h1 h2; exact ⟨he, hr, hd, ht⟩, fun h => by cases h⟩
theorem VarPost.mk_no {α : Type} {w : World} {R : Nat} {S : List Nat} {D : α → World → Prop} {e : Ending} {w' : World} (he : e = Wrong 30) (ht : Touch [R] w w') : VarPost w R S (none : Option (α × List UInt8)) D e w' :=
  ⟨(fun _ _ h => by cases h), fun _ => ⟨he, ht⟩⟩

theorem Rd.start {w : World} {a : Option Addr} {n c : Nat} {bs : List UInt8} (h : Row8 w a n bs) (hnc : n ≤ c) (hcm : c ≤ maxLen) (hnil : a = none → c = 0) : Rd (readStart w a n c) (w.heap.size + 1) bs := by
  refine ⟨a, n, c, ?_, (h.alloc _).alloc _, hnc, hcm, hnil, fun b off e hn => ?_⟩
  rotate_left
  · obtain ⟨b', off', e', hc⟩ := h.2 0 hn
    rw [e] at e'
    injection e' with e'
    injection e' with e1
    have := World.block_lt_of_cell? w _ hc
    simp only at this
    omega
  have := heap_alloc_new (w.alloc (.cells #[.int .i64 0] 30)) (.cells #[.slice a n c] 121)
  rw [World.size_alloc] at this
  exact this
theorem readStart_old {w : World} {a : Option Addr} {n c : Nat} {k : Nat} (h : k < w.heap.size) : (readStart w a n c).heap[k]? = w.heap[k]? :=
  (heap_alloc_old _ _ (by rw [World.size_alloc]; omega)).trans (heap_alloc_old w _ h)
theorem readStart_size (w : World) (a : Option Addr) (n c : Nat) : (readStart w a n c).heap.size = w.heap.size + 2 := by
  unfold readStart
  rw [World.size_alloc, World.size_alloc]
theorem readStart_below (w : World) (a : Option Addr) (n c : Nat) : Below w.heap.size w (readStart w a n c) := ((Below.refl _ _).alloc (Nat.le_refl _) _).alloc (by rw [World.size_alloc]; omega) _

/-- what a Read leaves -/
def ReadVar {α : Type} (w : World) (S : List Nat) (res : Option (α × List UInt8)) (D : α → List (Nat × Obj)) (e : Ending) (w' : World) : Prop :=
  (∀ v rest, res = some (v, rest) → e = .returned (.int .i64 (if rest = [] then 0 else 30)) ∧ Holds (D v) w') ∧ (res = none → e = .returned (.int .i64 30) ∧ Touch [] w w') ∧ Touch S w w'

theorem read_var {α : Type} (K : FuncId) (caps : Array Value) (a : Option Addr) (n c : Nat) (w : World) (S : List Nat) (res : Option (α × List UInt8)) (D : α → List (Nat × Obj))
    (hcf : ∀ (args : Array Value) (w : World), (callFunc K args).run Try.prog w = .ok (.enter K args) w) (hS : ∀ k ∈ S, k < w.heap.size) (hD : ∀ v, ∀ p ∈ D v, p.1 < w.heap.size)
    (hf : Calls Try.prog K (#[.pointer (some ⟨w.heap.size + 1, 0, none⟩)] ++ caps) (readStart w a n c) (VarPost (readStart w a n c) (w.heap.size + 1) ((w.heap.size + 1) :: S) res fun v w' => Holds (D v) w')) :
    Calls Try.prog 44 #[.slice a n c, .func (.func K) #[] caps] w (ReadVar w S res D) := by
  have hno : w.heap.size ∉ (w.heap.size + 1) :: S := fun h => by
    rcases List.mem_cons.1 h with h | h
    · omega
    · have := hS _ h; omega
  have key := read_any K caps a n c w (fun rest w' => ∃ v, res = some (v, rest) ∧ Holds (D v) w' ∧ Touch ((w.heap.size + 1) :: S) (readStart w a n c) w') (fun code w' => res = none ∧ code = 30 ∧ Touch [w.heap.size + 1] (readStart w a n c) w') hcf (hf.mono fun e w' hp => by
    have hcode : (readStart w a n c).heap[w.heap.size]? = some (.cells #[.int .i64 0] 30 (0, 0)) :=
      (heap_alloc_old _ _ (by rw [World.size_alloc]; omega)).trans (heap_alloc_new w _)
    have hb : Touch ((w.heap.size + 1) :: S) (readStart w a n c) w' → w'.heap[w.heap.size]? = some (.cells #[.int .i64 0] 30 (0, 0)) := fun ht =>
      (ht.block _ (by rw [readStart_size]; omega) hno).trans hcode
    cases hres : res with
    | none =>
      obtain ⟨he, ht⟩ := hp.2 hres
      exact ⟨hb (ht.mono (fun k hk => by rw [List.mem_singleton] at hk; rw [hk]; exact List.mem_cons_self ..)), .inr ⟨30, he, rfl, rfl, ht⟩⟩
    | some p =>
      obtain ⟨v, rest⟩ := p
      obtain ⟨he, hr, hd, ht⟩ := hp.1 v rest hres
      exact ⟨hb ht, .inl ⟨rest, he, hr, v, rfl, hd, ht⟩⟩)
  have fin : ∀ (S : List Nat) w1 w', Touch ((w.heap.size + 1) :: S) (readStart w a n c) w1 → w1.grownBy w' (some w.heap.size) → Touch S w w' := fun S w1 w' ht hg => by
    have hb := readStart_below w a n c
    refine ⟨hg.os.trans (ht.os.trans hb.os), hg.tape.trans (ht.tape.trans hb.tape), hg.output.trans (ht.output.trans hb.output), Nat.le_trans hb.size (Nat.le_trans ht.size hg.size), fun k hk hn => ?_⟩
    have h1 := ht.size
    rw [readStart_size] at h1
    rw [hg.block k (by omega) (fun e => by injection e; omega), ht.block k (by rw [readStart_size]; omega) (fun h => by
      rcases List.mem_cons.1 h with h | h
      · omega
      · exact hn h), readStart_old hk]
  refine key.mono fun e w' hp => ?_
  rcases hp with ⟨rest, w1, ⟨v, hres, hd, ht⟩, he, _, hg⟩ | ⟨code, w1, ⟨hres, hcode, ht⟩, he, hg⟩
  · refine ⟨fun v' rest' h => ?_, (fun h => by rw [hres] at h; cases h), fin S w1 w' ht hg⟩
    rw [hres] at h
    injection h with h
    injection h with h1 h2
    subst h1 h2
    refine ⟨he, fun p hp => ?_⟩
    have h3 := hD v p hp
    have h4 := lt_of_block (hd p hp)
    rw [hg.block p.1 h4 (fun e => by injection e; omega)]
    exact hd p hp
  · have h0 := fin [] w1 w' ht hg
    exact ⟨fun v' rest' h => (by rw [hres] at h; cases h), fun _ => ⟨by rw [he, hcode], h0⟩, h0.mono (fun k hk => by cases hk)⟩

def getCount (most : Int) (bs : List UInt8) : Option (Int × List UInt8) :=
  match getNum bs with
  | none => none
  | some (n, r) => if n < 0 ∨ most < n then none else some (n, r)

set_option maxHeartbeats 800000 in
theorem count_any (R : Nat) (most : Int) (bs : List UInt8) (w : World) (hr : Rd w R bs) :
    Calls Try.prog 81 #[.pointer (some ⟨R, 0, none⟩), .int .i64 most] w (ReadPost w R i64v (getCount most bs)) := by
  have hc := num_any R bs w hr
  clear hr
  cases hg : getNum bs with
  | none =>
    have e : getCount most bs = none := by rw [getCount, hg]
    rw [hg] at hc
    rw [e]
    have HC := Lib.hid hc
    clear hc hg e
    go_enter Try.func81, Try.ntmps81
    go_wp2_with fail
    refine HC.out.mono ?_
    intro e w' hp
    obtain ⟨rfl, hgr⟩ := hp.no rfl
    simp only [Wrong]
    go_wp2
    exact ⟨rfl, ReadPost.mk_no hgr rfl⟩
  | some p =>
    obtain ⟨v, rest⟩ := p
    by_cases hv : v < 0 ∨ most < v
    · have e : getCount most bs = none := by rw [getCount, hg]; exact if_pos hv
      rw [hg] at hc
      rw [e]
      have HC := Lib.hid hc
      clear hc hg e
      by_cases h0 : v < 0
      · clear hv
        go_enter Try.func81, Try.ntmps81
        go_wp2_with fail
        refine HC.out.mono ?_
        intro e w' hp
        obtain ⟨rfl, hrd, hgr⟩ := hp.ok rfl
        simp only [i64v]
        go_wp2_with fail
        refine (fail_any R 30 _).mono ?_
        rintro e w'' ⟨rfl, rfl⟩
        simp only [Wrong]
        go_wp2
        exact ⟨rfl, ReadPost.mk_no hgr rfl⟩
      · have h1 : most < v := by omega
        clear hv
        go_enter Try.func81, Try.ntmps81
        go_wp2_with fail
        refine HC.out.mono ?_
        intro e w' hp
        obtain ⟨rfl, hrd, hgr⟩ := hp.ok rfl
        simp only [i64v]
        go_wp2_with fail
        refine (fail_any R 30 _).mono ?_
        rintro e w'' ⟨rfl, rfl⟩
        simp only [Wrong]
        go_wp2
        exact ⟨rfl, ReadPost.mk_no hgr rfl⟩
    · have e : getCount most bs = some (v, rest) := by rw [getCount, hg]; exact if_neg hv
      rw [hg] at hc
      rw [e]
      have HC := Lib.hid hc
      have h0 : ¬ v < 0 := by omega
      have h1 : ¬ most < v := by omega
      clear hc hg e hv
      go_enter Try.func81, Try.ntmps81
      go_wp2_with fail
      refine HC.out.mono ?_
      intro e w' hp
      obtain ⟨rfl, hrd, hgr⟩ := hp.ok rfl
      simp only [i64v]
      go_wp2_with fail
      go_ret
      exact ReadPost.mk_ok hgr rfl hrd

/-- .. where only blocks above the reader's own, and one that holds no bytes, have turned -/
theorem Rd.high {w w' : World} {R : Nat} {bs : List UInt8} (h : Rd w R bs) (hk : ∀ k, k ≤ R → k < w.heap.size → w'.heap[k]? = w.heap[k]?) : Rd w' R bs := by
  obtain ⟨a, n, c, hR', hrow, h1, h2, h3, h4⟩ := h
  refine ⟨a, n, c, (hk R (Nat.le_refl _) (lt_of_block hR')).trans hR', ⟨hrow.1, fun i hi => ?_⟩, h1, h2, h3, h4⟩
  obtain ⟨b, off, ha, hc⟩ := hrow.2 i hi
  refine ⟨b, off, ha, ?_⟩
  rw [World.cell?_of_block (hk b (Nat.le_of_lt (h4 b off ha (by omega))) (World.block_lt_of_cell? w _ hc))]
  exact hc

theorem grown_undrew {w w2 : World} {row : Option Nat} (hg : w.drew.grownBy w2 row) : w.grownBy w2 row := ⟨hg.os, hg.tape, hg.output, hg.size, hg.block⟩
theorem Rd.below {w w' : World} {R : Nat} {bs : List UInt8} (h : Rd w R bs) (hb : Below w.heap.size w w') : Rd w' R bs := by
  obtain ⟨a, n, c, hR, hrow, h1, h2, h3⟩ := h
  exact ⟨a, n, c, (hb.block R (lt_of_block hR)).trans hR, hrow.below hb, h1, h2, h3⟩
theorem grown_below {w w1 w' : World} {r : Option Nat} (h : w.grownBy w1 r) (hb : Below w1.heap.size w1 w') : w.grownBy w' r :=
  ⟨hb.os.trans h.os, hb.tape.trans h.tape, hb.output.trans h.output, Nat.le_trans h.size hb.size, fun k hk hn => (hb.block k (Nat.lt_of_lt_of_le hk h.size)).trans (h.block k hk hn)⟩

/-- Blocks that hold no bytes may turn. -/
theorem Rd.touch {S : List Nat} {w w' : World} {R : Nat} {bs : List UInt8} (h : Rd w R bs) (ht : Touch S w w') (hR : R ∉ S) (hS : ∀ k ∈ S, ∀ o n, w.cell? ⟨k, o, none⟩ ≠ some (.int .u8 n)) : Rd w' R bs := by
  obtain ⟨a, n, c, hR', hrow, h1, h2, h3⟩ := h
  refine ⟨a, n, c, (ht.block R (lt_of_block hR') hR).trans hR', ⟨hrow.1, fun i hi => ?_⟩, h1, h2, h3⟩
  obtain ⟨b, off, ha, hc⟩ := hrow.2 i hi
  have hb : b ∉ S := fun hb => hS b hb _ _ hc
  have hlt := World.block_lt_of_cell? w _ hc
  refine ⟨b, off, ha, ?_⟩
  rw [World.cell?_of_block (ht.block b hlt hb)]
  exact hc
end Go.Proofs.Ytcejamblndilbaa
