/- The plain reading of a number, and the reader's Num. -/
import Derived.Test.YtdpajcamgipgkaaReader
namespace Go.Proofs.Ytdpajcamgipgkaa
open Go.RowKit

/-- the number's groups of seven bits, from the i-th on; and the rest -/
def numGo : Nat → Nat → List UInt8 → Option (Nat × List UInt8)
  | _, _, [] => none
  | i, u, c :: r =>
    if i = 9 ∧ 1 < c.toNat ∨ 0 < i ∧ c.toNat = 0 then none
    else if c.toNat < 128 then some (u + c.toNat % 128 * 2 ^ (7 * i), r) else numGo (i + 1) (u + c.toNat % 128 * 2 ^ (7 * i)) r
def zag (u : Nat) : Int := if u % 2 = 1 then -((u / 2 : Nat) : Int) - 1 else ((u / 2 : Nat) : Int)
def getNum (bs : List UInt8) : Option (Int × List UInt8) := (numGo 0 0 bs).map fun x => (zag x.1, x.2)

theorem numGo_fail (i u : Nat) (c : UInt8) (r : List UInt8) (h : i = 9 ∧ 1 < c.toNat ∨ 0 < i ∧ c.toNat = 0) : numGo i u (c :: r) = none := by
  rw [numGo, if_pos h]
theorem numGo_last (i u : Nat) (c : UInt8) (r : List UInt8) (h : ¬ (i = 9 ∧ 1 < c.toNat ∨ 0 < i ∧ c.toNat = 0)) (hc : c.toNat < 128) : numGo i u (c :: r) = some (u + c.toNat % 128 * 2 ^ (7 * i), r) := by
  rw [numGo, if_neg h, if_pos hc]
theorem numGo_more (i u : Nat) (c : UInt8) (r : List UInt8) (h : ¬ (i = 9 ∧ 1 < c.toNat ∨ 0 < i ∧ c.toNat = 0)) (hc : ¬ c.toNat < 128) : numGo i u (c :: r) = numGo (i + 1) (u + c.toNat % 128 * 2 ^ (7 * i)) r := by
  rw [numGo, if_neg h, if_neg hc]

theorem and127 (c : Nat) (h : c < 256) : bits .and .u8 (c : Int) 127 = ((c % 128 : Nat) : Int) := by
  show IntKind.u8.wrap ((BitVec.ofInt 8 (c : Int) &&& BitVec.ofInt 8 ((2 ^ 7 - 1 : Nat) : Int)).toNat : Int) = _
  rw [BitVec.toNat_and, BitVec.ofInt_natCast, BitVec.ofInt_natCast, BitVec.toNat_ofNat, BitVec.toNat_ofNat, Nat.mod_eq_of_lt (a := c) h, Nat.mod_eq_of_lt (a := 2 ^ 7 - 1) (by omega), Nat.and_two_pow_sub_one_eq_mod, IntKind.wrap_u8]
  omega

theorem or64 (un x s : Nat) (hs : s ≤ 63) (hun : un < 2 ^ s) (hx : x % 128 * 2 ^ s < 2 ^ 64) :
    bits .or .u64 (un : Int) (IntKind.u64.wrap ((x : Int) % 128 * 2 ^ s)) = ((un + x % 128 * 2 ^ s : Nat) : Int) ∧ un + x % 128 * 2 ^ s < 2 ^ 64 := by
  have hp : 2 ^ s ≤ 2 ^ 63 := Nat.pow_le_pow_right (by decide) hs
  have e : (x : Int) % 128 * 2 ^ s = ((x % 128 * 2 ^ s : Nat) : Int) := by
    rw [Int.natCast_mul, Int.natCast_emod, Int.natCast_pow]
    rfl
  have hw : IntKind.u64.wrap ((x % 128 * 2 ^ s : Nat) : Int) = ((x % 128 * 2 ^ s : Nat) : Int) := by rw [IntKind.wrap_u64]; omega
  have hor : x % 128 * 2 ^ s ||| un = x % 128 * 2 ^ s + un := by rw [Nat.mul_comm, ← Nat.two_pow_add_eq_or_of_lt hun]
  have hlt : un + x % 128 * 2 ^ s < 2 ^ 64 := by
    have := Nat.or_lt_two_pow (n := 64) hx (show un < 2 ^ 64 by omega)
    omega
  refine ⟨?_, hlt⟩
  rw [e, hw]
  show IntKind.u64.wrap ((BitVec.ofInt 64 (un : Int) ||| BitVec.ofInt 64 ((x % 128 * 2 ^ s : Nat) : Int)).toNat : Int) = _
  rw [BitVec.toNat_or, BitVec.ofInt_natCast, BitVec.ofInt_natCast, BitVec.toNat_ofNat, BitVec.toNat_ofNat, Nat.mod_eq_of_lt (show un < 2 ^ 64 by omega), Nat.mod_eq_of_lt hx, Nat.or_comm, hor, IntKind.wrap_u64]
  omega

theorem and1 (v : Nat) (hv : v < 2 ^ 64) : bits .and .u64 (v : Int) 1 = (v : Int) % 2 := by
  have := and_one_u64 (v : Int) (by omega) (by omega)
  exact this

theorem zag_bits (v : Nat) (hv : v < 2 ^ 64) : bits .xor .i64 ((v : Int) / 2) (-((v : Int) % 2)) = zag v := by
  have e2 : (v : Int) / 2 = ((v / 2 : Nat) : Int) := by omega
  rw [e2]
  have h63 : v / 2 < 2 ^ 63 := by omega
  unfold zag
  rcases Nat.mod_two_eq_zero_or_one v with h | h
  · rw [if_neg (by omega)]
    have : -((v : Int) % 2) = 0 := by omega
    rw [this]
    show IntKind.i64.wrap ((BitVec.ofInt 64 ((v / 2 : Nat) : Int) ^^^ BitVec.ofInt 64 0).toNat : Int) = _
    rw [show BitVec.ofInt 64 0 = 0#64 from by decide, BitVec.xor_zero, BitVec.ofInt_natCast, BitVec.toNat_ofNat, Nat.mod_eq_of_lt (by omega), IntKind.wrap_i64]
    omega
  · rw [if_pos h]
    have : -((v : Int) % 2) = -1 := by omega
    rw [this]
    show IntKind.i64.wrap ((BitVec.ofInt 64 ((v / 2 : Nat) : Int) ^^^ BitVec.ofInt 64 (-1)).toNat : Int) = _
    rw [show BitVec.ofInt 64 (-1) = BitVec.allOnes 64 from by decide, BitVec.xor_allOnes, BitVec.toNat_not, BitVec.ofInt_natCast, BitVec.toNat_ofNat, Nat.mod_eq_of_lt (by omega), IntKind.wrap_i64]
    omega

/-- A reading: what it returns, or that it panics. -/
def ReadPost {α : Type} (w : World) (R : Nat) (v : α → Value) (res : Option (α × List UInt8)) (e : Ending) (w' : World) : Prop :=
  w.grownBy w' (some R) ∧ (∀ n rest, res = some (n, rest) → e = .returned (v n) ∧ Rd w' R rest) ∧ (res = none → e = Wrong 30)

theorem ReadPost.ok {α : Type} {w : World} {R : Nat} {v : α → Value} {res : Option (α × List UInt8)} {e : Ending} {w' : World} (h : ReadPost w R v res e w') {n : α} {rest : List UInt8} (hr : res = some (n, rest)) : e = .returned (v n) ∧ Rd w' R rest ∧ w.grownBy w' (some R) :=
  ⟨(h.2.1 n rest hr).1, (h.2.1 n rest hr).2, h.1⟩
theorem ReadPost.no {α : Type} {w : World} {R : Nat} {v : α → Value} {res : Option (α × List UInt8)} {e : Ending} {w' : World} (h : ReadPost w R v res e w') (hr : res = none) : e = Wrong 30 ∧ w.grownBy w' (some R) := ⟨h.2.2 hr, h.1⟩
theorem ReadPost.mk_ok {α : Type} {w : World} {R : Nat} {v : α → Value} {n : α} {rest : List UInt8} {e : Ending} {w' : World} (hg : w.grownBy w' (some R)) (he : e = .returned (v n)) (hr : Rd w' R rest) : ReadPost w R v (some (n, rest)) e w' :=
  ⟨hg, fun m r hm => by injection hm with hm; injection hm with h1 h2; subst h1 h2; exact ⟨he, hr⟩, fun h => by cases h⟩
theorem ReadPost.mk_no {α : Type} {w : World} {R : Nat} {v : α → Value} {e : Ending} {w' : World} (hg : w.grownBy w' (some R)) (he : e = Wrong 30) : ReadPost w R v none e w' :=
  ⟨hg, (fun _ _ h => by cases h), fun _ => he⟩

theorem getNum_of (bs : List UInt8) (o : Option (Nat × List UInt8)) (h : o = numGo 0 0 bs) : getNum bs = o.map fun x => (zag x.1, x.2) := by rw [getNum, h]

def i64v (n : Int) : Value := .int .i64 n

set_option maxRecDepth 100000 in
set_option maxHeartbeats 3200000 in
theorem num_any (R : Nat) (bs : List UInt8) (w : World) (hr : Rd w R bs) :
    Calls Try.prog 31 #[.pointer (some ⟨R, 0, none⟩)] w (ReadPost w R i64v (getNum bs)) := by
  have HR := Lib.hid hr
  clear hr
  go_enter Try.func31, Try.ntmps31
  go_wp2_with fail
  go_loopw [3, 4] (fun u s wr => ∃ (un i : Nat) (rest : List UInt8), i ≤ 9 ∧ un < 2 ^ (7 * i) ∧ u = .int .u64 (un : Nat) ∧ s = .int .i64 ((7 * i : Nat) : Int) ∧ Hid (numGo i un rest = numGo 0 0 bs) ∧ Rd wr R rest ∧ w.grownBy wr (some R)) (fun _ s _ => 70 - (intOf s).toNat)
  case atStart => exact ⟨0, 0, bs, by omega, by omega, rfl, rfl, rfl, HR.out, World.grownBy.refl _ _⟩
  case round =>
    obtain ⟨un, i, rest, hi, hun, rfl, rfl, hgo, hrd, hg⟩ := hrel
    obtain ⟨s, hs⟩ : ∃ s, s = 7 * i := ⟨_, rfl⟩
    rw [← hs]
    have hs63 : s ≤ 63 := by omega
    have HS := Lib.hid hs
    have HUN := Lib.hid hun
    clear hs hun
    have HRD := Lib.hid hrd
    have HG := Lib.hid hg
    clear hrd hg
    cases rest with
    | nil =>
      go_wp2_with fail
      refine (take_no R 1 [] _ HRD.out (by decide)).mono ?_
      rintro e w' ⟨rfl, rfl⟩
      simp only [Wrong]
      go_wp2
      refine ⟨rfl, ?_⟩
      rw [getNum_of bs none (by rw [← hgo.out]; rfl)]
      exact ReadPost.mk_no HG.out rfl
    | cons c rest =>
      go_wp2_with fail
      refine (take_ok R 1 (c :: rest) _ HRD.out (by simp)).mono ?_
      rintro e w' ⟨a, cap, rfl, hrow, hc1, hc2, hnil, hrd, hg⟩
      obtain ⟨b, off, rfl, x, hx, hxb, hcell⟩ := hrow.at 0 (by omega)
      rw [Nat.add_zero] at hcell
      have hxc : c.toNat = x := hxb.out
      have HXC := Lib.hid hxc
      have hg' := grown_step HG.out hg (.inl rfl)
      replace hrd : Rd w' R rest := hrd
      clear hxc hxb hrow hnil
      have hand := and127 x hx
      by_cases hf : 63 ≤ s ∧ 1 < x
      · obtain ⟨hf1, hf2⟩ := hf
        have hf1' : ((s : Int) == 63) = true := by simp; omega
        have hf2' : (1 : Int) < (x : Int) := by omega
        go_wp2_with fail
        refine (fail_any R 30 _).mono ?_
        rintro e w'' ⟨rfl, rfl⟩
        simp only [Wrong]
        go_wp2
        refine ⟨rfl, ?_⟩
        rw [getNum_of bs none (by rw [← hgo.out, numGo_fail _ _ _ _ (.inl ⟨by have := HS.out; omega, by rw [HXC.out]; exact hf2⟩)])]
        exact ReadPost.mk_no hg' rfl
      by_cases h0 : 0 < s ∧ x = 0
      · obtain ⟨h1, rfl⟩ := h0
        have h1' : (0 : Int) < (s : Int) := by omega
        go_wp2_with fail
        all_goals
          refine (fail_any R 30 _).mono ?_
          rintro e w'' ⟨rfl, rfl⟩
          simp only [Wrong]
          go_wp2
          refine ⟨rfl, ?_⟩
          rw [getNum_of bs none (by rw [← hgo.out, numGo_fail _ _ _ _ (.inr ⟨by have := HS.out; omega, HXC.out⟩)])]
          exact ReadPost.mk_no hg' rfl
      · have hno : ¬ (i = 9 ∧ 1 < c.toNat ∨ 0 < i ∧ c.toNat = 0) := by
          have h1 := HS.out
          have h2 := HXC.out
          rintro (⟨h3, h4⟩ | ⟨h3, h4⟩)
          · exact hf ⟨by omega, by omega⟩
          · exact h0 ⟨by omega, by omega⟩
        have HNO := Lib.hid hno
        clear hno
        have hcase : (63 ≤ s ∧ x ≤ 1 ∧ 1 ≤ x) ∨ (s ≤ 62 ∧ 1 ≤ s ∧ 1 ≤ x) ∨ (s = 0) := by omega
        clear hf h0
        have hxs : x % 128 * 2 ^ s < 2 ^ 64 ∧ (s ≤ 62 → un + x % 128 * 2 ^ s < 2 ^ (7 * (i + 1))) := by
          have hs7 := HS.out
          have hun := HUN.out
          rw [← hs7] at hun
          have hlt : x % 128 * 2 ^ s + 2 ^ s ≤ 128 * 2 ^ s := by
            have := Nat.mul_le_mul_right (2 ^ s) (show x % 128 + 1 ≤ 128 by omega)
            rw [Nat.add_mul, Nat.one_mul] at this
            exact this
          have hpp : 128 * 2 ^ s = 2 ^ (s + 7) := by rw [Nat.pow_add, Nat.mul_comm]
          constructor
          · by_cases h : 63 ≤ s
            · obtain rfl : s = 63 := by omega
              have : x ≤ 1 := by omega
              have : x % 128 ≤ 1 := by omega
              have := Nat.mul_le_mul_right (2 ^ 63) this
              omega
            · have : 2 ^ (s + 7) ≤ 2 ^ 63 := Nat.pow_le_pow_right (by decide) (by omega)
              omega
          · intro h
            rw [show 7 * (i + 1) = s + 7 by omega]
            omega
        have hor := or64 un x s hs63 (by rw [HS.out]; exact HUN.out) hxs.1
        obtain ⟨V, hV⟩ : ∃ V, V = un + x % 128 * 2 ^ s := ⟨_, rfl⟩
        rw [← hV] at hor hxs
        obtain ⟨hor1, hor2⟩ := hor
        have hV64 : V < 18446744073709551616 := by omega
        have ha1 := and1 V hor2
        have HZ := Lib.hid (zag_bits V hor2)
        have HV := Lib.hid hV
        have HXS := Lib.hid hxs.2
        clear hV hxs hor2
        have fin : x < 128 → numGo i un (c :: rest) = some (V, rest) := fun hlt => by
          rw [numGo_last _ _ _ _ HNO.out (by rw [HXC.out]; exact hlt), HXC.out, ← HS.out, ← HV.out]
        have nxt : ¬ x < 128 → numGo i un (c :: rest) = numGo (i + 1) V rest := fun hlt => by
          rw [numGo_more _ _ _ _ HNO.out (by rw [HXC.out]; exact hlt), HXC.out, ← HS.out, ← HV.out]
        have HFIN := Lib.hid fin
        have HNXT := Lib.hid nxt
        clear fin nxt
        rcases hcase with ⟨h1, h2, h3⟩ | ⟨h1, h2, h3⟩ | h1
        · have b1 : ((s : Int) == 63) = true := by simp; omega
          have b2 : ¬ (1 : Int) < (x : Int) := by omega
          have b3 : (0 : Int) < (s : Int) := by omega
          have b4 : ((x : Int) == 0) = false := by simp; omega
          have b5 : (x : Int) < 128 := by omega
          go_wp2_with fail
          go_ret
          rw [getNum_of bs _ (hgo.out.symm.trans (HFIN.out (by omega))).symm]
          exact ReadPost.mk_ok hg' (by rw [← HZ.out]; rfl) hrd
        · have b1 : ((s : Int) == 63) = false := by simp; omega
          have b3 : (0 : Int) < (s : Int) := by omega
          have b4 : ((x : Int) == 0) = false := by simp; omega
          by_cases b5 : x < 128
          · go_wp2_with fail
            go_ret
            rw [getNum_of bs _ (hgo.out.symm.trans (HFIN.out b5)).symm]
            exact ReadPost.mk_ok hg' (by rw [← HZ.out]; rfl) hrd
          · go_wp2_with fail
            go_roundw
            case rel => exact ⟨V, i + 1, rest, by have := HS.out; omega, HXS.out h1, rfl, by rw [HS.out]; go_num, (HNXT.out b5).symm.trans hgo.out, hrd, hg'⟩
            case measure => simp [intOf]; omega
        · have b1 : ((s : Int) == 63) = false := by simp; omega
          have b3 : ¬ (0 : Int) < (s : Int) := by omega
          have H1 := Lib.hid h1
          clear h1
          by_cases b5 : x < 128
          · go_wp2_with fail
            go_ret
            rw [getNum_of bs _ (hgo.out.symm.trans (HFIN.out b5)).symm]
            exact ReadPost.mk_ok hg' (by rw [← HZ.out]; rfl) hrd
          · go_wp2_with fail
            go_roundw
            case rel => exact ⟨V, i + 1, rest, by have := HS.out; have := H1.out; omega, HXS.out (by rw [H1.out]; omega), rfl, by rw [HS.out]; go_num, (HNXT.out b5).symm.trans hgo.out, hrd, hg'⟩
            case measure => simp [intOf]; omega

end Go.Proofs.Ytdpajcamgipgkaa
