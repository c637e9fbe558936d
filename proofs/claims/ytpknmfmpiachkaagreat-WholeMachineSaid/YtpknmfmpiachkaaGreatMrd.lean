/- Reading bytes: pack.Reader's Num, Count, Key, Read; and back: the plain laws (out of the texts of pack). -/
import Derived.Test.YtpknmfmpiachkaaGreatMput
import Derived.OneCell
import Derived.Defers
import Derived.Recover
namespace Go.Proofs.YtpknmfmpiachkaaGreat
open Go.RowKit
theorem drop_getD (bs : List UInt8) (k i : Nat) : (bs.drop k).getD i 0 = bs.getD (k + i) 0 := by
 rw [List.getD_eq_getElem?_getD, List.getD_eq_getElem?_getD, List.getElem?_drop]
def Rd (w : World) (R : Nat) (bs : List UInt8) : Prop :=
 ∃ a n c, w.heap[R]? = some (.cells #[.slice a n c] 194 (0, 0)) ∧ Row8 w a n bs ∧ n ≤ c ∧ c ≤ maxLen ∧ (a = none → c = 0) ∧ ∀ b off, a = some ⟨b, off, none⟩ → 0 < n → b < R
def Wrong (code : Int) : Ending := .panicked [{ v := .iface 196 (.agg #[.int .i64 code]), recovered := false }]
theorem Rd.apart {w : World} {R : Nat} {a : Option Addr} {n c len : Nat} {bs : List UInt8} {T : TypeId} (hR : w.heap[R]? = some (.cells #[.slice a n c] T (0, 0))) {a' : Option Addr} (h : Row8 w a' len bs) : ∀ b off, a' = some ⟨b, off, none⟩ → 0 < len → b ≠ R := by
 rintro b off rfl hl rfl
 obtain ⟨b', off', he, hc⟩ := h.2 0 hl
 simp only [Option.some.injEq, Addr.mk.injEq, and_true] at he
 obtain ⟨rfl, rfl⟩ := he
 simp only [World.cell?, hR, Nat.add_zero] at hc
 cases off with
 | zero => simp at hc
 | succ m => simp at hc
theorem Row8.drop {w : World} {a : Option Addr} {len : Nat} {bs : List UInt8} (h : Row8 w a len bs) (k : Nat) (hk : k ≤ len) : Row8 w (Option.map (fun x => x.add k) a) (len - k) (bs.drop k) := by
 refine ⟨by rw [List.length_drop, h.1], fun i hi => ?_⟩
 obtain ⟨b, off, ha, hc⟩ := h.2 (k + i) (by omega)
 subst ha
 refine ⟨b, off + k, by rw [Option.map_some, add_plain], ?_⟩
 rw [drop_getD, Nat.add_assoc]
 exact hc
theorem low_drop {w : World} {a : Option Addr} {n R : Nat} {bs : List UInt8} (h : ∀ b off, a = some ⟨b, off, none⟩ → 0 < n → b < R) (hrow : Row8 w a n bs) (k : Nat) : ∀ b off, Option.map (fun x => x.add k) a = some ⟨b, off, none⟩ → 0 < n - k → b < R := by
 intro b off e hn
 obtain ⟨b', off', rfl, _⟩ := hrow.2 0 (by omega)
 rw [Option.map_some, add_plain] at e
 injection e with e
 injection e with e1
 rw [← e1]
 exact h b' off' rfl (by omega)
set_option maxRecDepth 100000 in
set_option maxHeartbeats 800000 in
theorem fail_any (R : Nat) (e : Int) (w : World) :
 Calls Tryz.prog 83 #[.pointer (some ⟨R, 0, none⟩), .int .i64 e] w fun e' w' => e' = Wrong (if e = 0 then 30 else e) ∧ w = w' := by
 by_cases h : e = 0
 · subst h
   go_enter Tryz.func83, Tryz.ntmps83
   go_wp2
   exact ⟨rfl, rfl, rfl⟩
 · have h' : (e == 0) = false := by simpa using h
   go_enter Tryz.func83, Tryz.ntmps83
   go_wp2
   exact ⟨rfl, rfl, rfl⟩
set_option maxRecDepth 100000 in
set_option maxHeartbeats 800000 in
theorem take_ok (R : Nat) (k : Nat) (bs : List UInt8) (w : World) (hr : Rd w R bs) (hk : k ≤ bs.length) :
 Calls Tryz.prog 118 #[.pointer (some ⟨R, 0, none⟩), .int .i64 (k : Int)] w fun e w' => ∃ a c, e = .returned (.slice a k c) ∧ Row8 w' a k (bs.take k) ∧ k ≤ c ∧ c ≤ maxLen ∧ (a = none → c = 0) ∧ Rd w' R (bs.drop k) ∧ w.grownBy w' (some R) := by
 obtain ⟨a, n, c, hR, hrow, hnc, hcm, hnil, hlow⟩ := hr
 have hlen := hrow.1
 have hkn : k ≤ n := by omega
 have hcell := cell_of_one hR
 have hfree := free_of_one hR
 have hc' : c ≤ 9223372036854775807 := by simpa [maxLen] using hcm
 have hi1 : (k : Int) ≤ (c : Int) := by omega
 have hi2 : (k : Int) ≤ (n : Int) := by omega
 have HR := Lib.hid hR
 have HROW := Lib.hid hrow
 have HL := Lib.hid hlen
 have HN := Lib.hid hnil
 have HLOW := Lib.hid hlow
 clear hR hrow hlen hk hnil hlow
 go_enter Tryz.func118, Tryz.ntmps118
 go_wp2_with fail
 all_goals
  go_ret
  refine ⟨a, _, rfl, (HROW.out.take k hkn).set _ (Rd.apart HR.out (HROW.out.take k hkn)), ?_, ?_, ?_, ⟨_, _, _, one_setCell HR.out, ?_, ?_, ?_, ?_, ?_⟩, grown_set _ _ _ _⟩
  all_goals first
   | omega
   | (exact HN.out)
   | exact low_drop HLOW.out HROW.out k
   | (exact fun b off e h0 => HLOW.out b off e (by omega))
   | (intro h0; have := HN.out h0; omega)
   | (intro h0; have := HN.out (by simpa using h0); omega)
   | exact (HROW.out.drop k hkn).set _ (Rd.apart HR.out (HROW.out.drop k hkn))
   | (have h0 : n - k = 0 := by omega
      have hb : bs.drop k = [] := List.drop_of_length_le (by rw [HL.out]; omega)
      rw [h0, hb]
      exact Row8.nil _ _)
set_option maxRecDepth 100000 in
set_option maxHeartbeats 800000 in
theorem take_no (R : Nat) (k : Nat) (bs : List UInt8) (w : World) (hr : Rd w R bs) (hk : bs.length < k) :
 Calls Tryz.prog 118 #[.pointer (some ⟨R, 0, none⟩), .int .i64 (k : Int)] w fun e w' => e = Wrong 30 ∧ w = w' := by
 obtain ⟨a, n, c, hR, hrow, hnc, hcm, hnil, hlow⟩ := hr
 have hlen := hrow.1
 have hcell := cell_of_one hR
 have hi1 : (n : Int) < (k : Int) := by omega
 clear hR hrow hlen hk hnil hlow
 go_enter Tryz.func118, Tryz.ntmps118
 go_wp2_with fail
 refine (fail_any R 30 w).mono ?_
 rintro e w' ⟨rfl, rfl⟩
 simp only [Wrong]
 go_wp2
 exact ⟨rfl, rfl, rfl⟩
def numGo : Nat → Nat → List UInt8 → Option (Nat × List UInt8)
 | _, _, [] => none
 | i, u, c :: r =>
   if i = 9 ∧ 1 < c.toNat ∨ 0 < i ∧ c.toNat = 0 then none
   else if c.toNat < 128 then some (u + c.toNat % 128 * 2 ^ (7 * i), r) else numGo (i + 1) (u + c.toNat % 128 * 2 ^ (7 * i)) r
def zag (u : Nat) : Int := if u % 2 = 1 then -((u / 2 : Nat) : Int) - 1 else ((u / 2 : Nat) : Int)
def getNum (bs : List UInt8) : Option (Int × List UInt8) := (numGo 0 0 bs).map fun x => (zag x.1, x.2)
theorem numGo_fail (i u : Nat) (c : UInt8) (r : List UInt8) (h : i = 9 ∧ 1 < c.toNat ∨ 0 < i ∧ c.toNat = 0) : numGo i u (c :: r) = none := by
 rw [numGo, if_pos h]
theorem numGo_last (i u : Nat) (c : UInt8) (r : List UInt8) (h : ¬ (i = 9 ∧ 1 < c.toNat ∨ 0 < i ∧ c.toNat = 0)) (hc : c.toNat < 128) : numGo i u (c :: r) = some (u + c.toNat % 128 * 2 ^ (7 * i), r) := by
 rw [numGo, if_neg h, if_pos hc]
theorem numGo_more (i u : Nat) (c : UInt8) (r : List UInt8) (h : ¬ (i = 9 ∧ 1 < c.toNat ∨ 0 < i ∧ c.toNat = 0)) (hc : ¬ c.toNat < 128) : numGo i u (c :: r) = numGo (i + 1) (u + c.toNat % 128 * 2 ^ (7 * i)) r := by
 rw [numGo, if_neg h, if_neg hc]
theorem and127 (c : Nat) (h : c < 256) : bits .and .u8 (c : Int) 127 = ((c % 128 : Nat) : Int) := by
 show IntKind.u8.wrap ((BitVec.ofInt 8 (c : Int) &&& BitVec.ofInt 8 ((2 ^ 7 - 1 : Nat) : Int)).toNat : Int) = _
 rw [BitVec.toNat_and, BitVec.ofInt_natCast, BitVec.ofInt_natCast, BitVec.toNat_ofNat, BitVec.toNat_ofNat, Nat.mod_eq_of_lt (a := c) h, Nat.mod_eq_of_lt (a := 2 ^ 7 - 1) (by omega), Nat.and_two_pow_sub_one_eq_mod, IntKind.wrap_u8]
 omega
theorem or64 (un x s : Nat) (hs : s ≤ 63) (hun : un < 2 ^ s) (hx : x % 128 * 2 ^ s < 2 ^ 64) :
 bits .or .u64 (un : Int) (IntKind.u64.wrap ((x : Int) % 128 * 2 ^ s)) = ((un + x % 128 * 2 ^ s : Nat) : Int) ∧ un + x % 128 * 2 ^ s < 2 ^ 64 := by
 have hp : 2 ^ s ≤ 2 ^ 63 := Nat.pow_le_pow_right (by decide) hs
 have e : (x : Int) % 128 * 2 ^ s = ((x % 128 * 2 ^ s : Nat) : Int) := by
  rw [Int.natCast_mul, Int.natCast_emod, Int.natCast_pow]
  rfl
 have hw : IntKind.u64.wrap ((x % 128 * 2 ^ s : Nat) : Int) = ((x % 128 * 2 ^ s : Nat) : Int) := by rw [IntKind.wrap_u64]; omega
 have hor : x % 128 * 2 ^ s ||| un = x % 128 * 2 ^ s + un := by rw [Nat.mul_comm, ← Nat.two_pow_add_eq_or_of_lt hun]
 have hlt : un + x % 128 * 2 ^ s < 2 ^ 64 := by
  have := Nat.or_lt_two_pow (n := 64) hx (show un < 2 ^ 64 by omega)
  omega
 refine ⟨?_, hlt⟩
 rw [e, hw]
 show IntKind.u64.wrap ((BitVec.ofInt 64 (un : Int) ||| BitVec.ofInt 64 ((x % 128 * 2 ^ s : Nat) : Int)).toNat : Int) = _
 rw [BitVec.toNat_or, BitVec.ofInt_natCast, BitVec.ofInt_natCast, BitVec.toNat_ofNat, BitVec.toNat_ofNat, Nat.mod_eq_of_lt (show un < 2 ^ 64 by omega), Nat.mod_eq_of_lt hx, Nat.or_comm, hor, IntKind.wrap_u64]
 omega
theorem and1 (v : Nat) (hv : v < 2 ^ 64) : bits .and .u64 (v : Int) 1 = (v : Int) % 2 := by
 have := and_one_u64 (v : Int) (by omega) (by omega)
 exact this
theorem zag_bits (v : Nat) (hv : v < 2 ^ 64) : bits .xor .i64 ((v : Int) / 2) (-((v : Int) % 2)) = zag v := by
 have e2 : (v : Int) / 2 = ((v / 2 : Nat) : Int) := by omega
 rw [e2]
 have h63 : v / 2 < 2 ^ 63 := by omega
 unfold zag
 rcases Nat.mod_two_eq_zero_or_one v with h | h
 · rw [if_neg (by omega)]
   have : -((v : Int) % 2) = 0 := by omega
   rw [this]
   show IntKind.i64.wrap ((BitVec.ofInt 64 ((v / 2 : Nat) : Int) ^^^ BitVec.ofInt 64 0).toNat : Int) = _
   rw [show BitVec.ofInt 64 0 = 0#64 from by decide, BitVec.xor_zero, BitVec.ofInt_natCast, BitVec.toNat_ofNat, Nat.mod_eq_of_lt (by omega), IntKind.wrap_i64]
   omega
 · rw [if_pos h]
   have : -((v : Int) % 2) = -1 := by omega
   rw [this]
   show IntKind.i64.wrap ((BitVec.ofInt 64 ((v / 2 : Nat) : Int) ^^^ BitVec.ofInt 64 (-1)).toNat : Int) = _
   rw [show BitVec.ofInt 64 (-1) = BitVec.allOnes 64 from by decide, BitVec.xor_allOnes, BitVec.toNat_not, BitVec.ofInt_natCast, BitVec.toNat_ofNat, Nat.mod_eq_of_lt (by omega), IntKind.wrap_i64]
   omega
def ReadPost {α : Type} (w : World) (R : Nat) (v : α → Value) (res : Option (α × List UInt8)) (e : Ending) (w' : World) : Prop :=
 w.grownBy w' (some R) ∧ (∀ n rest, res = some (n, rest) → e = .returned (v n) ∧ Rd w' R rest) ∧ (res = none → e = Wrong 30)
theorem ReadPost.ok {α : Type} {w : World} {R : Nat} {v : α → Value} {res : Option (α × List UInt8)} {e : Ending} {w' : World} (h : ReadPost w R v res e w') {n : α} {rest : List UInt8} (hr : res = some (n, rest)) : e = .returned (v n) ∧ Rd w' R rest ∧ w.grownBy w' (some R) :=
 ⟨(h.2.1 n rest hr).1, (h.2.1 n rest hr).2, h.1⟩
theorem ReadPost.no {α : Type} {w : World} {R : Nat} {v : α → Value} {res : Option (α × List UInt8)} {e : Ending} {w' : World} (h : ReadPost w R v res e w') (hr : res = none) : e = Wrong 30 ∧ w.grownBy w' (some R) := ⟨h.2.2 hr, h.1⟩
theorem ReadPost.mk_ok {α : Type} {w : World} {R : Nat} {v : α → Value} {n : α} {rest : List UInt8} {e : Ending} {w' : World} (hg : w.grownBy w' (some R)) (he : e = .returned (v n)) (hr : Rd w' R rest) : ReadPost w R v (some (n, rest)) e w' :=
 ⟨hg, fun m r hm => by injection hm with hm; injection hm with h1 h2; subst h1 h2; exact ⟨he, hr⟩, fun h => by cases h⟩
theorem ReadPost.mk_no {α : Type} {w : World} {R : Nat} {v : α → Value} {e : Ending} {w' : World} (hg : w.grownBy w' (some R)) (he : e = Wrong 30) : ReadPost w R v none e w' :=
 ⟨hg, (fun _ _ h => by cases h), fun _ => he⟩
theorem getNum_of (bs : List UInt8) (o : Option (Nat × List UInt8)) (h : o = numGo 0 0 bs) : getNum bs = o.map fun x => (zag x.1, x.2) := by rw [getNum, h]
def i64v (n : Int) : Value := .int .i64 n
set_option maxRecDepth 100000 in
set_option maxHeartbeats 3200000 in
theorem num_any (R : Nat) (bs : List UInt8) (w : World) (hr : Rd w R bs) :
 Calls Tryz.prog 79 #[.pointer (some ⟨R, 0, none⟩)] w (ReadPost w R i64v (getNum bs)) := by
 have HR := Lib.hid hr
 clear hr
 go_enter Tryz.func79, Tryz.ntmps79
 go_wp2_with fail
 go_loopw [3, 4] (fun u s wr => ∃ (un i : Nat) (rest : List UInt8), i ≤ 9 ∧ un < 2 ^ (7 * i) ∧ u = .int .u64 (un : Nat) ∧ s = .int .i64 ((7 * i : Nat) : Int) ∧ Hid (numGo i un rest = numGo 0 0 bs) ∧ Rd wr R rest ∧ w.grownBy wr (some R)) (fun _ s _ => 70 - (intOf s).toNat)
 case atStart => exact ⟨0, 0, bs, by omega, by omega, rfl, rfl, rfl, HR.out, World.grownBy.refl _ _⟩
 case round =>
  obtain ⟨un, i, rest, hi, hun, rfl, rfl, hgo, hrd, hg⟩ := hrel
  obtain ⟨s, hs⟩ : ∃ s, s = 7 * i := ⟨_, rfl⟩
  rw [← hs]
  have hs63 : s ≤ 63 := by omega
  have HS := Lib.hid hs
  have HUN := Lib.hid hun
  clear hs hun
  have HRD := Lib.hid hrd
  have HG := Lib.hid hg
  clear hrd hg
  cases rest with
  | nil =>
    go_wp2_with fail
    refine (take_no R 1 [] _ HRD.out (by decide)).mono ?_
    rintro e w' ⟨rfl, rfl⟩
    simp only [Wrong]
    go_wp2
    refine ⟨rfl, ?_⟩
    rw [getNum_of bs none (by rw [← hgo.out]; rfl)]
    exact ReadPost.mk_no HG.out rfl
  | cons c rest =>
    go_wp2_with fail
    refine (take_ok R 1 (c :: rest) _ HRD.out (by simp)).mono ?_
    rintro e w' ⟨a, cap, rfl, hrow, hc1, hc2, hnil, hrd, hg⟩
    obtain ⟨b, off, rfl, x, hx, hxb, hcell⟩ := hrow.at 0 (by omega)
    rw [Nat.add_zero] at hcell
    have hxc : c.toNat = x := hxb.out
    have HXC := Lib.hid hxc
    have hg' := grown_step HG.out hg (.inl rfl)
    replace hrd : Rd w' R rest := hrd
    clear hxc hxb hrow hnil
    have hand := and127 x hx
    by_cases hf : 63 ≤ s ∧ 1 < x
    · obtain ⟨hf1, hf2⟩ := hf
      have hf1' : ((s : Int) == 63) = true := by simp; omega
      have hf2' : (1 : Int) < (x : Int) := by omega
      go_wp2_with fail
      refine (fail_any R 30 _).mono ?_
      rintro e w'' ⟨rfl, rfl⟩
      simp only [Wrong]
      go_wp2
      refine ⟨rfl, ?_⟩
      rw [getNum_of bs none (by rw [← hgo.out, numGo_fail _ _ _ _ (.inl ⟨by have := HS.out; omega, by rw [HXC.out]; exact hf2⟩)])]
      exact ReadPost.mk_no hg' rfl
    by_cases h0 : 0 < s ∧ x = 0
    · obtain ⟨h1, rfl⟩ := h0
      have h1' : (0 : Int) < (s : Int) := by omega
      go_wp2_with fail
      all_goals
       refine (fail_any R 30 _).mono ?_
       rintro e w'' ⟨rfl, rfl⟩
       simp only [Wrong]
       go_wp2
       refine ⟨rfl, ?_⟩
       rw [getNum_of bs none (by rw [← hgo.out, numGo_fail _ _ _ _ (.inr ⟨by have := HS.out; omega, HXC.out⟩)])]
       exact ReadPost.mk_no hg' rfl
    · have hno : ¬ (i = 9 ∧ 1 < c.toNat ∨ 0 < i ∧ c.toNat = 0) := by
       have h1 := HS.out
       have h2 := HXC.out
       rintro (⟨h3, h4⟩ | ⟨h3, h4⟩)
       · exact hf ⟨by omega, by omega⟩
       · exact h0 ⟨by omega, by omega⟩
      have HNO := Lib.hid hno
      clear hno
      have hcase : (63 ≤ s ∧ x ≤ 1 ∧ 1 ≤ x) ∨ (s ≤ 62 ∧ 1 ≤ s ∧ 1 ≤ x) ∨ (s = 0) := by omega
      clear hf h0
      have hxs : x % 128 * 2 ^ s < 2 ^ 64 ∧ (s ≤ 62 → un + x % 128 * 2 ^ s < 2 ^ (7 * (i + 1))) := by
       have hs7 := HS.out
       have hun := HUN.out
       rw [← hs7] at hun
       have hlt : x % 128 * 2 ^ s + 2 ^ s ≤ 128 * 2 ^ s := by
        have := Nat.mul_le_mul_right (2 ^ s) (show x % 128 + 1 ≤ 128 by omega)
        rw [Nat.add_mul, Nat.one_mul] at this
        exact this
       have hpp : 128 * 2 ^ s = 2 ^ (s + 7) := by rw [Nat.pow_add, Nat.mul_comm]
       constructor
       · by_cases h : 63 ≤ s
         · obtain rfl : s = 63 := by omega
           have : x ≤ 1 := by omega
           have : x % 128 ≤ 1 := by omega
           have := Nat.mul_le_mul_right (2 ^ 63) this
           omega
         · have : 2 ^ (s + 7) ≤ 2 ^ 63 := Nat.pow_le_pow_right (by decide) (by omega)
           omega
       · intro h
         rw [show 7 * (i + 1) = s + 7 by omega]
         omega
      have hor := or64 un x s hs63 (by rw [HS.out]; exact HUN.out) hxs.1
      obtain ⟨V, hV⟩ : ∃ V, V = un + x % 128 * 2 ^ s := ⟨_, rfl⟩
      rw [← hV] at hor hxs
      obtain ⟨hor1, hor2⟩ := hor
      have hV64 : V < 18446744073709551616 := by omega
      have ha1 := and1 V hor2
      have HZ := Lib.hid (zag_bits V hor2)
      have HV := Lib.hid hV
      have HXS := Lib.hid hxs.2
      clear hV hxs hor2
      have fin : x < 128 → numGo i un (c :: rest) = some (V, rest) := fun hlt => by
       rw [numGo_last _ _ _ _ HNO.out (by rw [HXC.out]; exact hlt), HXC.out, ← HS.out, ← HV.out]
      have nxt : ¬ x < 128 → numGo i un (c :: rest) = numGo (i + 1) V rest := fun hlt => by
       rw [numGo_more _ _ _ _ HNO.out (by rw [HXC.out]; exact hlt), HXC.out, ← HS.out, ← HV.out]
      have HFIN := Lib.hid fin
      have HNXT := Lib.hid nxt
      clear fin nxt
      rcases hcase with ⟨h1, h2, h3⟩ | ⟨h1, h2, h3⟩ | h1
      · have b1 : ((s : Int) == 63) = true := by simp; omega
        have b2 : ¬ (1 : Int) < (x : Int) := by omega
        have b3 : (0 : Int) < (s : Int) := by omega
        have b4 : ((x : Int) == 0) = false := by simp; omega
        have b5 : (x : Int) < 128 := by omega
        go_wp2_with fail
        go_ret
        rw [getNum_of bs _ (hgo.out.symm.trans (HFIN.out (by omega))).symm]
        exact ReadPost.mk_ok hg' (by rw [← HZ.out]; rfl) hrd
      · have b1 : ((s : Int) == 63) = false := by simp; omega
        have b3 : (0 : Int) < (s : Int) := by omega
        have b4 : ((x : Int) == 0) = false := by simp; omega
        by_cases b5 : x < 128
        · go_wp2_with fail
          go_ret
          rw [getNum_of bs _ (hgo.out.symm.trans (HFIN.out b5)).symm]
          exact ReadPost.mk_ok hg' (by rw [← HZ.out]; rfl) hrd
        · go_wp2_with fail
          go_roundw
          case rel => exact ⟨V, i + 1, rest, by have := HS.out; omega, HXS.out h1, rfl, by rw [HS.out]; go_num, (HNXT.out b5).symm.trans hgo.out, hrd, hg'⟩
          case measure => simp [intOf]; omega
      · have b1 : ((s : Int) == 63) = false := by simp; omega
        have b3 : ¬ (0 : Int) < (s : Int) := by omega
        have H1 := Lib.hid h1
        clear h1
        by_cases b5 : x < 128
        · go_wp2_with fail
          go_ret
          rw [getNum_of bs _ (hgo.out.symm.trans (HFIN.out b5)).symm]
          exact ReadPost.mk_ok hg' (by rw [← HZ.out]; rfl) hrd
        · go_wp2_with fail
          go_roundw
          case rel => exact ⟨V, i + 1, rest, by have := HS.out; have := H1.out; omega, HXS.out (by rw [H1.out]; omega), rfl, by rw [HS.out]; go_num, (HNXT.out b5).symm.trans hgo.out, hrd, hg'⟩
          case measure => simp [intOf]; omega
set_option maxRecDepth 100000 in
set_option maxHeartbeats 1600000 in
theorem caught (b : Nat) (x code : Int) (T : TypeId) (older : List PanicEntry) (w : World) (hb : w.heap[b]? = some (.cells #[.int .i64 x] T (0, 0))) :
 CallsD Tryz.prog 117 #[.pointer (some ⟨b, 0, none⟩)] (.panicking ({ v := .iface 196 (.agg #[.int .i64 code]), recovered := false } :: older)) w fun e u' w' =>
  e = .returned (.tuple #[]) ∧ u' = .panicking ({ v := .iface 196 (.agg #[.int .i64 code]), recovered := true } :: older) ∧ w' = (w.alloc (.cells #[.int .i64 code] 196)).setCell ⟨b, 0, none⟩ (.int .i64 code) := by
 have hc : ∀ o, (w.alloc o).cell? ⟨b, 0, none⟩ = some (.int .i64 x) := fun o => cell_of_one ((heap_alloc_old w o (lt_of_block hb)).trans hb)
 have hz : ∀ o, (w.alloc o).frozen? ⟨b, 0, none⟩ = false := fun o => free_of_one ((heap_alloc_old w o (lt_of_block hb)).trans hb)
 clear hb
 have hta : ∀ (v : Value) (w : World), (Instr.typeAssert (.iface 196 v) 20 196 true).run Tryz.prog w = .ok (.tuple #[v, .bool true]) w := fun _ _ => by kernel_rfl
 refine callsD_of_wpS Tryz.func117 rfl fun c₀ cs hu => ?_
 apply wpS_seq
 apply wpS_region
 simp [wpOpsS, go_sem, recoverD, hu, Tryz.ntmps117, Exit.thenS]
 refine wpS_of_wp ?_
 rw [show (#[Value.pointer (some ⟨b, 0, none⟩)] ++ (Array.replicate 11 undef).setIfInBounds 3 (Value.iface 196 (Value.agg #[Value.int IntKind.i64 code]))) = #[.pointer (some ⟨b, 0, none⟩), undef, undef, undef, .iface 196 (.agg #[.int .i64 code]), undef, undef, undef, undef, undef, undef, undef] from rfl]
 go_wp2
 simp [bodyPostS, results, Tryz.results117]
set_option maxRecDepth 100000 in
set_option maxHeartbeats 1600000 in
theorem caught_idle (b : Nat) (w : World) :
 CallsD Tryz.prog 117 #[.pointer (some ⟨b, 0, none⟩)] .returning w fun e u' w' => e = .returned (.tuple #[]) ∧ u' = .returning ∧ w' = w := by
 refine callsD_of_wpS Tryz.func117 rfl fun c₀ cs hu => ?_
 apply wpS_seq
 apply wpS_region
 simp [wpOpsS, go_sem, recoverD, hu, Tryz.ntmps117, Exit.thenS]
 refine wpS_of_wp ?_
 go_wp2
 cases c₀
 simp_all [bodyPostS, results, Tryz.results117]
def readStart (w : World) (a : Option Addr) (n c : Nat) : World := (w.alloc (.cells #[.int .i64 0] 33)).alloc (.cells #[.slice a n c] 194)
def FunPost (w : World) (D : List UInt8 → World → Prop) (F : Int → World → Prop) (e : Ending) (w' : World) : Prop :=
 w'.heap[w.heap.size]? = some (.cells #[.int .i64 0] 33 (0, 0)) ∧
 ((∃ rest, e = .returned (.tuple #[]) ∧ Rd w' (w.heap.size + 1) rest ∧ D rest w') ∨ (∃ code, e = Wrong code ∧ F code w'))
def ReadsTo (w : World) (D : List UInt8 → World → Prop) (F : Int → World → Prop) (e : Ending) (w' : World) : Prop :=
 (∃ rest w1, D rest w1 ∧ e = .returned (.int .i64 (if rest = [] then 0 else 30)) ∧ w1.heap.size ≤ w'.heap.size ∧ w1.grownBy w' (some w.heap.size)) ∨
 (∃ code w1, F code w1 ∧ e = .returned (.int .i64 code) ∧ w1.grownBy w' (some w.heap.size))
set_option maxRecDepth 100000 in
set_option maxHeartbeats 1600000 in
theorem read_any (K : FuncId) (caps : Array Value) (a : Option Addr) (n c : Nat) (w : World) (D : List UInt8 → World → Prop) (F : Int → World → Prop)
 (hcf : ∀ (args : Array Value) (w : World), (callFunc K args).run Tryz.prog w = .ok (.enter K args) w)
 (hf : Calls Tryz.prog K (#[.pointer (some ⟨w.heap.size + 1, 0, none⟩)] ++ caps) (readStart w a n c) (FunPost w D F)) :
 Calls Tryz.prog 77 #[.slice a n c, .func (.func K) #[] caps] w (ReadsTo w D F) := by
 have hmf : ∀ (fn : Fn) (first cap : Array Value) (w : World), (Instr.makeFunc fn first cap).run Tryz.prog w = .ok (.func fn first cap) w := fun _ _ _ _ => rfl
 have HF := Lib.hid hf
 clear hf
 go_enter_defers Tryz.func77, Tryz.ntmps77
 go_wp2_with fail
 refine HF.out.mono ?_
 rintro e w1 ⟨hblk, ⟨rest, rfl, hrd, hD⟩ | ⟨code, rfl, hF⟩⟩
 · obtain ⟨a', n', c', hR, hrow, hnc, hcm, hnil, _⟩ := hrd
   have hcell := cell_of_one hR
   have hc4 := cell_of_one hblk
   have hf4 := free_of_one hblk
   have hlen := hrow.1
   have HR := Lib.hid hR
   have HB := Lib.hid hblk
   have HL := Lib.hid hlen
   clear hR hrow hblk hlen
   by_cases h0 : n' = 0
   · have h0' : ¬ (0 : Int) < (n' : Int) := by omega
     have hrest : rest = [] := List.eq_nil_of_length_eq_zero (by rw [HL.out]; exact h0)
     have HRS := Lib.hid hrest
     clear h0 hrest
     go_wp2_with fail
     refine leaves_cons (f := 117) (args := #[.pointer (some ⟨w.heap.size, 0, none⟩)]) (by simp) (by simp [go_sem]) ?_
     refine (caught_idle w.heap.size _).mono ?_
     rintro e u' w'' ⟨rfl, rfl, rfl⟩
     have hres : (w1.setCell ⟨w.heap.size, 0, none⟩ (.int .i64 0)).cell? ⟨w.heap.size, 0, none⟩ = some (.int .i64 0) := cell_of_one (one_setCell HB.out)
     have hend : ReadsTo w D F (.returned (.int .i64 0)) (w1.setCell ⟨w.heap.size, 0, none⟩ (.int .i64 0)) := .inl ⟨rest, w1, hD, by rw [if_pos HRS.out], by simp [World.setCell], grown_set _ _ _ _⟩
     simp [Leaves, settle, results, Tryz.results77, go_sem, hres, hend]
   · have h0' : (0 : Int) < (n' : Int) := by omega
     go_wp2_with fail
     refine leaves_cons (f := 117) (args := #[.pointer (some ⟨w.heap.size, 0, none⟩)]) (by simp) (by simp [go_sem]) ?_
     refine (caught_idle w.heap.size _).mono ?_
     rintro e u' w'' ⟨rfl, rfl, rfl⟩
     have hres : (w1.setCell ⟨w.heap.size, 0, none⟩ (.int .i64 30)).cell? ⟨w.heap.size, 0, none⟩ = some (.int .i64 30) := cell_of_one (one_setCell HB.out)
     have hend : ReadsTo w D F (.returned (.int .i64 30)) (w1.setCell ⟨w.heap.size, 0, none⟩ (.int .i64 30)) := .inl ⟨rest, w1, hD, by rw [if_neg (fun e => by have := HL.out; rw [e] at this; simp at this; omega)], by simp [World.setCell], grown_set _ _ _ _⟩
     simp [Leaves, settle, results, Tryz.results77, go_sem, hres, hend]
 · simp only [Wrong]
   go_wp2
   refine leaves_cons (f := 117) (args := #[.pointer (some ⟨w.heap.size, 0, none⟩)]) (by simp) (by simp [go_sem]) ?_
   refine (caught w.heap.size 0 code _ [] w1 hblk).mono ?_
   rintro e u' w'' ⟨rfl, rfl, rfl⟩
   have hblk' := (heap_alloc_old w1 (.cells #[.int .i64 code] 196) (lt_of_block hblk)).trans hblk
   have hres := cell_of_one (one_setCell (u := .int .i64 code) hblk')
   have hend : ReadsTo w D F (.returned (.int .i64 code)) ((w1.alloc (.cells #[.int .i64 code] 196)).setCell ⟨w.heap.size, 0, none⟩ (.int .i64 code)) := .inr ⟨code, w1, hF, rfl, grown_step (World.grownBy_alloc _ _ _) (grown_set _ _ _ _) (.inl rfl)⟩
   simp [Leaves, settle, results, Tryz.results77, go_sem, hres, hend]
theorem Rd.start {w : World} {a : Option Addr} {n c : Nat} {bs : List UInt8} (h : Row8 w a n bs) (hnc : n ≤ c) (hcm : c ≤ maxLen) (hnil : a = none → c = 0) : Rd (readStart w a n c) (w.heap.size + 1) bs := by
 refine ⟨a, n, c, ?_, (h.alloc _).alloc _, hnc, hcm, hnil, fun b off e hn => ?_⟩
 rotate_left
 · obtain ⟨b', off', e', hc⟩ := h.2 0 hn
   rw [e] at e'
   injection e' with e'
   injection e' with e1
   have := World.block_lt_of_cell? w _ hc
   simp only at this
   omega
 have := heap_alloc_new (w.alloc (.cells #[.int .i64 0] 33)) (.cells #[.slice a n c] 194)
 rw [World.size_alloc] at this
 exact this
theorem readStart_old {w : World} {a : Option Addr} {n c : Nat} {k : Nat} (h : k < w.heap.size) : (readStart w a n c).heap[k]? = w.heap[k]? :=
 (heap_alloc_old _ _ (by rw [World.size_alloc]; omega)).trans (heap_alloc_old w _ h)
theorem readStart_size (w : World) (a : Option Addr) (n c : Nat) : (readStart w a n c).heap.size = w.heap.size + 2 := by
 unfold readStart
 rw [World.size_alloc, World.size_alloc]
theorem readStart_below (w : World) (a : Option Addr) (n c : Nat) : Below w.heap.size w (readStart w a n c) := ((Below.refl _ _).alloc (Nat.le_refl _) _).alloc (by rw [World.size_alloc]; omega) _
def getCount (most : Int) (bs : List UInt8) : Option (Int × List UInt8) :=
 match getNum bs with
 | none => none
 | some (n, r) => if n < 0 ∨ most < n then none else some (n, r)
set_option maxRecDepth 100000 in
set_option maxHeartbeats 800000 in
theorem rcount_any (R : Nat) (most : Int) (bs : List UInt8) (w : World) (hr : Rd w R bs) :
 Calls Tryz.prog 81 #[.pointer (some ⟨R, 0, none⟩), .int .i64 most] w (ReadPost w R i64v (getCount most bs)) := by
 have hc := num_any R bs w hr
 clear hr
 cases hg : getNum bs with
 | none =>
   have e : getCount most bs = none := by rw [getCount, hg]
   rw [hg] at hc
   rw [e]
   have HC := Lib.hid hc
   clear hc hg e
   go_enter Tryz.func81, Tryz.ntmps81
   go_wp2_with fail
   refine HC.out.mono ?_
   intro e w' hp
   obtain ⟨rfl, hgr⟩ := hp.no rfl
   simp only [Wrong]
   go_wp2
   exact ⟨rfl, ReadPost.mk_no hgr rfl⟩
 | some p =>
   obtain ⟨v, rest⟩ := p
   by_cases hv : v < 0 ∨ most < v
   · have e : getCount most bs = none := by rw [getCount, hg]; exact if_pos hv
     rw [hg] at hc
     rw [e]
     have HC := Lib.hid hc
     clear hc hg e
     by_cases h0 : v < 0
     · clear hv
       go_enter Tryz.func81, Tryz.ntmps81
       go_wp2_with fail
       refine HC.out.mono ?_
       intro e w' hp
       obtain ⟨rfl, hrd, hgr⟩ := hp.ok rfl
       simp only [i64v]
       go_wp2_with fail
       refine (fail_any R 30 _).mono ?_
       rintro e w'' ⟨rfl, rfl⟩
       simp only [Wrong]
       go_wp2
       exact ⟨rfl, ReadPost.mk_no hgr rfl⟩
     · have h1 : most < v := by omega
       clear hv
       go_enter Tryz.func81, Tryz.ntmps81
       go_wp2_with fail
       refine HC.out.mono ?_
       intro e w' hp
       obtain ⟨rfl, hrd, hgr⟩ := hp.ok rfl
       simp only [i64v]
       go_wp2_with fail
       refine (fail_any R 30 _).mono ?_
       rintro e w'' ⟨rfl, rfl⟩
       simp only [Wrong]
       go_wp2
       exact ⟨rfl, ReadPost.mk_no hgr rfl⟩
   · have e : getCount most bs = some (v, rest) := by rw [getCount, hg]; exact if_neg hv
     rw [hg] at hc
     rw [e]
     have HC := Lib.hid hc
     have h0 : ¬ v < 0 := by omega
     have h1 : ¬ most < v := by omega
     clear hc hg e hv
     go_enter Tryz.func81, Tryz.ntmps81
     go_wp2_with fail
     refine HC.out.mono ?_
     intro e w' hp
     obtain ⟨rfl, hrd, hgr⟩ := hp.ok rfl
     simp only [i64v]
     go_wp2_with fail
     go_ret
     exact ReadPost.mk_ok hgr rfl hrd
theorem Rd.high {w w' : World} {R : Nat} {bs : List UInt8} (h : Rd w R bs) (hk : ∀ k, k ≤ R → k < w.heap.size → w'.heap[k]? = w.heap[k]?) : Rd w' R bs := by
 obtain ⟨a, n, c, hR', hrow, h1, h2, h3, h4⟩ := h
 refine ⟨a, n, c, (hk R (Nat.le_refl _) (lt_of_block hR')).trans hR', ⟨hrow.1, fun i hi => ?_⟩, h1, h2, h3, h4⟩
 obtain ⟨b, off, ha, hc⟩ := hrow.2 i hi
 refine ⟨b, off, ha, ?_⟩
 rw [World.cell?_of_block (hk b (Nat.le_of_lt (h4 b off ha (by omega))) (World.block_lt_of_cell? w _ hc))]
 exact hc
theorem Rd.below {w w' : World} {R : Nat} {bs : List UInt8} (h : Rd w R bs) (hb : Below w.heap.size w w') : Rd w' R bs := by
 obtain ⟨a, n, c, hR, hrow, h1, h2, h3⟩ := h
 exact ⟨a, n, c, (hb.block R (lt_of_block hR)).trans hR, hrow.below hb, h1, h2, h3⟩
theorem Rd.touch {S : List Nat} {w w' : World} {R : Nat} {bs : List UInt8} (h : Rd w R bs) (ht : Touch S w w') (hR : R ∉ S) (hS : ∀ k ∈ S, ∀ o n, w.cell? ⟨k, o, none⟩ ≠ some (.int .u8 n)) : Rd w' R bs := by
 obtain ⟨a, n, c, hR', hrow, h1, h2, h3⟩ := h
 refine ⟨a, n, c, (ht.block R (lt_of_block hR') hR).trans hR', ⟨hrow.1, fun i hi => ?_⟩, h1, h2, h3⟩
 obtain ⟨b, off, ha, hc⟩ := hrow.2 i hi
 have hb : b ∉ S := fun hb => hS b hb _ _ hc
 have hlt := World.block_lt_of_cell? w _ hc
 refine ⟨b, off, ha, ?_⟩
 rw [World.cell?_of_block (ht.block b hlt hb)]
 exact hc
def Flo.of (u : Nat) : Nat := if u = 0 then 9221120237041090561 else if u < 9223372036854775808 then 18446744073709551615 - u else u - 9223372036854775808
def Flo.isCode (u : Nat) : Bool := decide (code (of u) = u)
theorem Flo.of_lt (u : Nat) (h : u < 18446744073709551616) : of u < 18446744073709551616 := by unfold of; split; omega; split <;> omega
theorem Flo.code_of_code (u : Nat) (h : isCode u = true) : code (of u) = u := of_decide_eq_true h
theorem Flo.of_code (b : Nat) (h : b < 18446744073709551616) : of (code b) = canon b := by
 unfold code
 cases hn : nan b with
 | true => rw [if_pos rfl]; unfold of canon; rw [if_pos rfl, hn, if_pos rfl]
 | false =>
   rw [if_neg (by simp)]
   have hcl := canon_lt b h
   have hne : canon b ≠ 18446744073709551615 := by
    unfold canon nan at *
    have := of_decide_eq_false hn
    rw [hn, if_neg (by simp)]
    split <;> omega
   by_cases hc : canon b < 9223372036854775808
   · rw [if_pos hc]; unfold of; rw [if_neg (by omega), if_neg (by omega)]; omega
   · rw [if_neg hc]; unfold of; rw [if_neg (by omega), if_pos (by omega)]; omega
theorem Flo.isCode_code (b : Nat) (h : b < 18446744073709551616) : isCode (code b) = true := by
 unfold isCode
 rw [of_code b h, code_canon]
 exact decide_eq_true rfl
def FromPost (u : Nat) (w : World) (e : Ending) (w' : World) : Prop := RetTwo w (.float .f64 (if Flo.isCode u = true then Flo.of u else 0)) (.bool (Flo.isCode u)) e w'
theorem FromPost.mk {u : Nat} {w : World} {e : Ending} {x : Nat} {c : Bool} (he : e = .returned (.tuple #[.float .f64 x, .bool c])) (hc : Flo.isCode u = c) (hx : x = if c = true then Flo.of u else 0) : FromPost u w e w := by
 subst hc hx
 exact ⟨he, rfl⟩
set_option maxRecDepth 100000 in
set_option maxHeartbeats 1600000 in
theorem from_any (u : Nat) (w : World) (hu : u < 18446744073709551616) : Calls Tryz.prog 119 #[.int .u64 (u : Nat)] w (FromPost u w) := by
 have hfb := frombits64
 have HU := Lib.hid hu
 clear hu
 by_cases h0 : u = 0
 · subst h0
   go_enter Tryz.func119, Tryz.ntmps119
   go_wp2_with fail
   refine (naN_any _).mono ?_
   rintro e w' ⟨rfl, rfl⟩
   go_wp2_with fail
   go_ret2
   exact FromPost.mk rfl (by decide) rfl
 · have h0' : ((u : Int) == 0) = false := by simp; omega
   have H0 := Lib.hid h0
   clear h0
   go_enter Tryz.func119, Tryz.ntmps119
   go_wp2_with fail
   · have h : (Flo.maskTop u != 0) = true := by assumption
     rw [Flo.maskTop_eq u HU.out] at h
     have hge : ¬ u < 9223372036854775808 := by
      intro hc
      unfold Flo.topBit at h
      rw [if_pos hc] at h; simp at h
     have eb : (Flo.dropTop u).toNat = Flo.of u := by
      rw [Flo.dropTop_eq u HU.out]
      unfold Flo.of
      rw [if_neg H0.out, if_neg hge]
      have := HU.out
      omega
     have EB := Lib.hid eb
     clear eb h hge
     rw [show (bits BinOp.andNot IntKind.u64 (u : Int) 9223372036854775808).toNat = Flo.of u from EB.out]
     refine (code_any (Flo.of u) _ (Flo.of_lt u HU.out)).mono ?_
     rintro e w' ⟨rfl, rfl⟩
     cases hcode : Flo.isCode u with
     | true =>
       rw [Flo.code_of_code u hcode]
       have HC := Lib.hid hcode
       clear hcode
       go_wp2_with fail
       go_ret2
       exact FromPost.mk rfl HC.out rfl
     | false =>
       obtain ⟨c, hc⟩ : ∃ c, c = Flo.code (Flo.of u) := ⟨_, rfl⟩
       have hne : ((c : Int) != (u : Int)) = true := by
        have : c ≠ u := fun e => by
         rw [hc] at e
         have := of_decide_eq_false hcode
         exact this e
        simp; omega
       rw [← hc]
       have HC := Lib.hid hcode
       clear hcode hc
       go_wp2_with fail
       go_ret2
       exact FromPost.mk rfl HC.out rfl
   · have h : (Flo.maskTop u != 0) = false := by assumption
     rw [Flo.maskTop_eq u HU.out] at h
     have hge : u < 9223372036854775808 := by
      by_cases hc : u < 9223372036854775808
      · exact hc
      · exfalso
        unfold Flo.topBit at h
        rw [if_neg hc] at h; simp at h
     have eb : (Flo.flip u).toNat = Flo.of u := by
      rw [Flo.flip_eq u HU.out]
      unfold Flo.of
      rw [if_neg H0.out, if_pos hge]
      rfl
     have EB := Lib.hid eb
     clear eb h hge
     rw [show (bits BinOp.xor IntKind.u64 IntKind.u64.max (u : Int)).toNat = Flo.of u from EB.out]
     refine (code_any (Flo.of u) _ (Flo.of_lt u HU.out)).mono ?_
     rintro e w' ⟨rfl, rfl⟩
     cases hcode : Flo.isCode u with
     | true =>
       rw [Flo.code_of_code u hcode]
       have HC := Lib.hid hcode
       clear hcode
       go_wp2_with fail
       go_ret2
       exact FromPost.mk rfl HC.out rfl
     | false =>
       obtain ⟨c, hc⟩ : ∃ c, c = Flo.code (Flo.of u) := ⟨_, rfl⟩
       have hne : ((c : Int) != (u : Int)) = true := by
        have : c ≠ u := fun e => by
         rw [hc] at e
         have := of_decide_eq_false hcode
         exact this e
        simp; omega
       rw [← hc]
       have HC := Lib.hid hcode
       clear hcode hc
       go_wp2_with fail
       go_ret2
       exact FromPost.mk rfl HC.out rfl
def be (bs : List UInt8) : Nat := bs.foldl (fun u c => u * 256 + c.toNat) 0
theorem be_snoc (bs : List UInt8) (c : UInt8) : be (bs ++ [c]) = be bs * 256 + c.toNat := by simp [be, List.foldl_append]
theorem be_lt (bs : List UInt8) : ∀ n, bs.length = n → be bs < 256 ^ n := by
 intro n hn
 subst hn
 suffices h : ∀ (bs : List UInt8) (u k : Nat), u < 256 ^ k → bs.foldl (fun u c => u * 256 + c.toNat) u < 256 ^ (k + bs.length) by
  have := h bs 0 0 (by decide)
  rw [Nat.zero_add] at this
  exact this
 clear bs
 intro bs
 induction bs with
 | nil => intro u k h; simpa using h
 | cons c r ih =>
   intro u k h
   rw [List.foldl_cons, List.length_cons]
   have hc := c.toNat_lt
   have := ih (u * 256 + c.toNat) (k + 1) (by rw [Nat.pow_succ]; omega)
   rw [show k + (r.length + 1) = k + 1 + r.length from by omega]
   exact this
theorem or8 (u c : Nat) (hu : u < 72057594037927936) (hc : c < 256) : bits .or .u64 (IntKind.u64.wrap ((u : Int) * 256)) (c : Int) = ((u * 256 + c : Nat) : Int) := by
 have e : (u : Int) * 256 = ((u * 2 ^ 8 : Nat) : Int) := by omega
 have hw : IntKind.u64.wrap ((u * 2 ^ 8 : Nat) : Int) = ((u * 2 ^ 8 : Nat) : Int) := by rw [IntKind.wrap_u64]; omega
 have hor : u * 2 ^ 8 ||| c = u * 256 + c := by
  rw [Nat.mul_comm, ← Nat.two_pow_add_eq_or_of_lt (i := 8) (show c < 2 ^ 8 by omega) u, Nat.mul_comm]
 rw [e, hw]
 show IntKind.u64.wrap ((BitVec.ofInt 64 ((u * 2 ^ 8 : Nat) : Int) ||| BitVec.ofInt 64 (c : Int)).toNat : Int) = _
 rw [BitVec.toNat_or, BitVec.ofInt_natCast, BitVec.ofInt_natCast, BitVec.toNat_ofNat, BitVec.toNat_ofNat, Nat.mod_eq_of_lt (show u * 2 ^ 8 < 2 ^ 64 by omega), Nat.mod_eq_of_lt (show c < 2 ^ 64 by omega), hor, IntKind.wrap_u64]
 omega
def getKey (bs : List UInt8) : Option (Nat × List UInt8) := if 8 ≤ bs.length ∧ Flo.isCode (be (bs.take 8)) = true then some (Flo.of (be (bs.take 8)), bs.drop 8) else none
def f64v (x : Nat) : Value := .float .f64 x
set_option maxRecDepth 100000 in
set_option maxHeartbeats 1600000 in
theorem key_any (R : Nat) (bs : List UInt8) (w : World) (hr : Rd w R bs) :
 Calls Tryz.prog 82 #[.pointer (some ⟨R, 0, none⟩)] w (ReadPost w R f64v (getKey bs)) := by
 have HR := Lib.hid hr
 clear hr
 by_cases h8 : 8 ≤ bs.length
 · have H8 := Lib.hid h8
   clear h8
   go_enter Tryz.func82, Tryz.ntmps82
   go_wp2_with fail
   refine (take_ok R 8 bs _ HR.out H8.out).mono ?_
   rintro e w' ⟨a, cap, rfl, hrow, hc1, hc2, hnil, hrd, hg⟩
   have HROW := Lib.hid hrow
   have HRD := Lib.hid hrd
   have HG := Lib.hid hg
   clear hrow hnil hrd hg
   obtain ⟨wo, rfl⟩ : ∃ wo : World, wo = w' := ⟨_, rfl⟩
   go_wp2_with fail
   go_loopw [3, 11] (fun u i wr => ∃ (k un : Nat), k ≤ 8 ∧ Hid (un = be ((bs.take 8).take k)) ∧ u = .int .u64 (un : Nat) ∧ i = .int .i64 k ∧ SameW wo wr) (fun _ i _ => 8 - (intOf i).toNat)
   case atStart => exact ⟨0, 0, by omega, rfl, rfl, rfl, rfl⟩
   case round =>
    obtain ⟨k, un, hk, HU, rfl, rfl, hsame⟩ := hrel
    have hsame : wo = wr := hsame
    subst hsame
    have hl8 : (bs.take 8).length = 8 := HROW.out.1
    by_cases hlt : k < 8
    · obtain ⟨b, off, rfl, x, hx, hxb, hcell⟩ := HROW.out.at k hlt
      have hun : un < 72057594037927936 := by
       have h1 := be_lt ((bs.take 8).take k) k (by rw [List.length_take, hl8]; omega)
       have h2 : 256 ^ k ≤ 256 ^ 7 := Nat.pow_le_pow_right (by decide) (by omega)
       rw [HU.out]
       omega
      have hor := or8 un x hun hx
      have hsnoc : un * 256 + x = be ((bs.take 8).take (k + 1)) := by
       rw [List.take_succ_eq_append_getElem (by rw [hl8]; exact hlt), be_snoc, HU.out]
       have e1 := hxb.out
       rw [List.getD_eq_getElem?_getD, List.getElem?_eq_getElem (by rw [hl8]; exact hlt)] at e1
       rw [← e1]
       rfl
      have HS := Lib.hid hsnoc
      have hV : un * 256 + x < 18446744073709551616 := by omega
      obtain ⟨V, hV2⟩ : ∃ V, V = un * 256 + x := ⟨_, rfl⟩
      rw [← hV2] at hor HS hV
      clear hsnoc hxb hl8 hV2 hun
      have hkl : (k : Int) < 8 := by omega
      go_wp2_with fail
      go_roundw
      case rel => exact ⟨k + 1, V, by omega, HS, rfl, by go_num, rfl⟩
      case measure => simp [intOf]; omega
    · have hke : k = 8 := by omega
      subst hke
      have hue : un = be (bs.take 8) := by rw [HU.out, List.take_of_length_le (by rw [hl8]; omega)]
      have hlt64 : un < 18446744073709551616 := by
       rw [hue]
       exact be_lt (bs.take 8) 8 hl8
      have HUE := Lib.hid hue
      have HLT := Lib.hid hlt64
      clear hl8 hue hlt64 HU
      go_wp2_with fail
      refine (from_any un _ HLT.out).mono ?_
      rintro e w2 ⟨rfl, rfl⟩
      cases hcode : Flo.isCode un with
      | true =>
        have e : getKey bs = some (Flo.of un, bs.drop 8) := by rw [getKey, if_pos ⟨H8.out, by rw [← HUE.out]; exact hcode⟩, ← HUE.out]
        rw [if_pos rfl]
        have HE := Lib.hid e
        clear e hcode
        go_wp2_with fail
        go_ret
        rw [HE.out]
        exact ReadPost.mk_ok HG.out rfl HRD.out
      | false =>
        have e : getKey bs = none := by rw [getKey, if_neg (fun h => by have := h.2; rw [← HUE.out, hcode] at this; cases this)]
        rw [if_neg (by simp)]
        have HE := Lib.hid e
        clear e hcode
        go_wp2_with fail
        refine (fail_any R 30 _).mono ?_
        rintro e w'' ⟨rfl, rfl⟩
        simp only [Wrong]
        go_wp2
        refine ⟨rfl, ?_⟩
        rw [HE.out]
        exact ReadPost.mk_no HG.out rfl
 · have e : getKey bs = none := by rw [getKey, if_neg (fun h => h8 h.1)]
   rw [e]
   have H8 := Lib.hid h8
   clear h8 e
   go_enter Tryz.func82, Tryz.ntmps82
   go_wp2_with fail
   refine (take_no R 8 bs _ HR.out (by have := H8.out; omega)).mono ?_
   rintro e w' ⟨rfl, rfl⟩
   simp only [Wrong]
   go_wp2
   exact ⟨rfl, ReadPost.mk_no (World.grownBy.refl _ _) rfl⟩
theorem pow_step (i : Nat) (h : i ≤ 8) : 2 ^ (64 - 7 * i) = 128 * 2 ^ (64 - 7 * (i + 1)) := by
 rw [show 64 - 7 * i = 7 + (64 - 7 * (i + 1)) from by omega, Nat.pow_add]
theorem pow_up (i : Nat) : 2 ^ (7 * (i + 1)) = 128 * 2 ^ (7 * i) := by
 rw [show 7 * (i + 1) = 7 + 7 * i from by omega, Nat.pow_add]
theorem small_byte (n : Nat) (h : n < 256) : (UInt8.ofNat n).toNat = n := by
 rw [UInt8.toNat_ofNat']
 exact Nat.mod_eq_of_lt h
theorem numGo_leb (r : List UInt8) : ∀ (f i acc u : Nat), i + f = 9 → u < 2 ^ (64 - 7 * i) → (0 < i → 0 < u) → numGo i acc (lebF (f + 1) u ++ r) = some (acc + u * 2 ^ (7 * i), r) := by
 intro f
 induction f with
 | zero =>
   intro i acc u hi hu h0
   obtain rfl : i = 9 := by omega
   have hu' : u < 2 := by simpa using hu
   have hb := small_byte u (by omega)
   rw [lebF, if_pos (by omega), List.cons_append, List.nil_append, numGo_last _ _ _ _ (by rw [hb]; omega) (by rw [hb]; omega), hb, Nat.mod_eq_of_lt (by omega)]
 | succ f ih =>
   intro i acc u hi hu h0
   by_cases h : u < 128
   · have hb := small_byte u (by omega)
     rw [lebF, if_pos h, List.cons_append, List.nil_append, numGo_last _ _ _ _ (by rw [hb]; omega) (by rw [hb]; omega), hb, Nat.mod_eq_of_lt h]
   · have hb := small_byte (u % 128 + 128) (by omega)
     rw [lebF, if_neg h, List.cons_append, numGo_more _ _ _ _ (by rw [hb]; omega) (by rw [hb]; omega), hb, ih (i + 1) _ _ (by omega) (by rw [pow_step i (by omega)] at hu; omega) (fun _ => by omega)]
     have e : (u % 128 + 128) % 128 = u % 128 := by omega
     rw [e, pow_up, Nat.add_assoc, ← Nat.mul_assoc, ← Nat.add_mul]
     have e2 : u % 128 + u / 128 * 128 = u := by omega
     rw [e2]
theorem zag_zig (n : Int) : zag (zig n) = n := by
 unfold zag zig
 split <;> split <;> omega
theorem getNum_num (n : Int) (r : List UInt8) (h : -9223372036854775808 ≤ n ∧ n ≤ 9223372036854775807) : getNum (numBytes n ++ r) = some (n, r) := by
 have := numGo_leb r 9 0 0 (zig n) rfl (zig_lt n h) (fun h => absurd h (by omega))
 rw [getNum, numBytes, this]
 simp [zag_zig]
theorem be_key (u : Nat) (h : u < 18446744073709551616) : be (keyBytes u) = u := by
 have key : ∀ k, k ≤ 8 → be ((keyBytes u).take k) = u / 2 ^ (64 - 8 * k) := by
  intro k
  induction k with
  | zero => intro _; rw [List.take_zero]; exact (Nat.div_eq_of_lt h).symm
  | succ k ih =>
    intro hk
    rw [key_take u k (by omega), be_snoc, ih (by omega), small_byte _ (Nat.mod_lt _ (by decide))]
    rw [show 64 - 8 * k = (56 - 8 * k) + 8 from by omega, Nat.pow_add, ← Nat.div_div_eq_div_mul, show 64 - 8 * (k + 1) = 56 - 8 * k from by omega]
    omega
 have := key 8 (Nat.le_refl _)
 rw [List.take_of_length_le (by rw [key_len]; exact Nat.le_refl _)] at this
 simpa using this
theorem getKey_key (x : Nat) (r : List UInt8) (h : x < 18446744073709551616) : getKey (keyBytes (Flo.code x) ++ r) = some (Flo.canon x, r) := by
 have hc : Flo.code x < 18446744073709551616 := by
  rcases Flo.code_lt x with h1 | h1
  · exact h1
  · exact absurd h h1
 have ht : (keyBytes (Flo.code x) ++ r).take 8 = keyBytes (Flo.code x) := by rw [← key_len (Flo.code x), List.take_left]
 have hd : (keyBytes (Flo.code x) ++ r).drop 8 = r := by rw [← key_len (Flo.code x), List.drop_left]
 rw [getKey, ht, hd, be_key _ hc, if_pos ⟨by rw [List.length_append, key_len]; omega, Flo.isCode_code x h⟩, Flo.of_code x h]
end Go.Proofs.YtpknmfmpiachkaaGreat
