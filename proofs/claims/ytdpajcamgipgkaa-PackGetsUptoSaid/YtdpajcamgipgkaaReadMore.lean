/- The reader's Key, Bytes, Flag. -/
import Derived.Test.YtdpajcamgipgkaaFails
import Derived.Test.YtdpajcamgipgkaaFloFrom
namespace Go.Proofs.Ytdpajcamgipgkaa
open Go.RowKit

/-- eight bytes as a code -/
def be (bs : List UInt8) : Nat := bs.foldl (fun u c => u * 256 + c.toNat) 0
theorem be_snoc (bs : List UInt8) (c : UInt8) : be (bs ++ [c]) = be bs * 256 + c.toNat := by simp [be, List.foldl_append]
theorem be_lt (bs : List UInt8) : ∀ n, bs.length = n → be bs < 256 ^ n := by
  intro n hn
  subst hn
  suffices h : ∀ (bs : List UInt8) (u k : Nat), u < 256 ^ k → bs.foldl (fun u c => u * 256 + c.toNat) u < 256 ^ (k + bs.length) by
    have := h bs 0 0 (by decide)
    rw [Nat.zero_add] at this
    exact this
  clear bs
  intro bs
  induction bs with
  | nil => intro u k h; simpa using h
  | cons c r ih =>
    intro u k h
    rw [List.foldl_cons, List.length_cons]
    have hc := c.toNat_lt
    have := ih (u * 256 + c.toNat) (k + 1) (by rw [Nat.pow_succ]; omega)
    rw [show k + (r.length + 1) = k + 1 + r.length from by omega]
    exact this

theorem or8 (u c : Nat) (hu : u < 72057594037927936) (hc : c < 256) : bits .or .u64 (IntKind.u64.wrap ((u : Int) * 256)) (c : Int) = ((u * 256 + c : Nat) : Int) := by
  have e : (u : Int) * 256 = ((u * 2 ^ 8 : Nat) : Int) := by omega
  have hw : IntKind.u64.wrap ((u * 2 ^ 8 : Nat) : Int) = ((u * 2 ^ 8 : Nat) : Int) := by rw [IntKind.wrap_u64]; omega
  have hor : u * 2 ^ 8 ||| c = u * 256 + c := by
    rw [Nat.mul_comm, ← Nat.two_pow_add_eq_or_of_lt (i := 8) (show c < 2 ^ 8 by omega) u, Nat.mul_comm]
  rw [e, hw]
  show IntKind.u64.wrap ((BitVec.ofInt 64 ((u * 2 ^ 8 : Nat) : Int) ||| BitVec.ofInt 64 (c : Int)).toNat : Int) = _
  rw [BitVec.toNat_or, BitVec.ofInt_natCast, BitVec.ofInt_natCast, BitVec.toNat_ofNat, BitVec.toNat_ofNat, Nat.mod_eq_of_lt (show u * 2 ^ 8 < 2 ^ 64 by omega), Nat.mod_eq_of_lt (show c < 2 ^ 64 by omega), hor, IntKind.wrap_u64]
  omega

def SameW (a b : World) : Prop := a = b
def getKey (bs : List UInt8) : Option (Nat × List UInt8) := if 8 ≤ bs.length ∧ Flo.isCode (be (bs.take 8)) = true then some (Flo.of (be (bs.take 8)), bs.drop 8) else none
def getFlag : List UInt8 → Option (Bool × List UInt8)
  | [] => none
  | c :: r => if c.toNat ≤ 1 then some (decide (c.toNat = 1), r) else none
def getBytes (bs : List UInt8) : Option (List UInt8 × List UInt8) :=
  match getCount 4096 bs with
  | none => none
  | some (n, r) => if n.toNat ≤ r.length then some (r.take n.toNat, r.drop n.toNat) else none
def f64v (x : Nat) : Value := .float .f64 x
def boolv (b : Bool) : Value := .bool b

set_option maxRecDepth 100000 in
set_option maxHeartbeats 1600000 in
theorem flag_any (R : Nat) (bs : List UInt8) (w : World) (hr : Rd w R bs) :
    Calls Try.prog 45 #[.pointer (some ⟨R, 0, none⟩)] w (ReadPost w R boolv (getFlag bs)) := by
  have HR := Lib.hid hr
  clear hr
  cases bs with
  | nil =>
    go_enter Try.func45, Try.ntmps45
    go_wp2_with fail
    refine (take_no R 1 [] _ HR.out (by decide)).mono ?_
    rintro e w' ⟨rfl, rfl⟩
    simp only [Wrong]
    go_wp2
    exact ⟨rfl, ReadPost.mk_no (World.grownBy.refl _ _) rfl⟩
  | cons c r =>
    go_enter Try.func45, Try.ntmps45
    go_wp2_with fail
    refine (take_ok R 1 (c :: r) _ HR.out (by simp)).mono ?_
    rintro e w' ⟨a, cap, rfl, hrow, hc1, hc2, hnil, hrd, hg⟩
    obtain ⟨b, off, rfl, x, hx, hxb, hcell⟩ := hrow.at 0 (by omega)
    rw [Nat.add_zero] at hcell
    have hxc : c.toNat = x := hxb.out
    have HXC := Lib.hid hxc
    have HRD : Hid (Rd w' R r) := hrd
    have HG := Lib.hid hg
    clear hxc hxb hrow hnil hrd hg
    by_cases h1 : x ≤ 1
    · have h1' : ¬ (1 : Int) < (x : Int) := by omega
      have e : getFlag (c :: r) = some (decide (c.toNat = 1), r) := by rw [getFlag, if_pos (by rw [HXC.out]; exact h1)]
      have HE := Lib.hid e
      clear e
      go_wp2_with fail
      go_ret
      rw [HE.out]
      refine ReadPost.mk_ok HG.out ?_ HRD.out
      rw [HXC.out]
      show Ending.returned (.bool ((x : Int) == ((1 : Nat) : Int))) = _
      rw [nat_beq]
      rfl
    · have h1' : (1 : Int) < (x : Int) := by omega
      have e : getFlag (c :: r) = none := by rw [getFlag, if_neg (by rw [HXC.out]; exact h1)]
      have HE := Lib.hid e
      clear e
      go_wp2_with fail
      refine (fail_any R 30 _).mono ?_
      rintro e w'' ⟨rfl, rfl⟩
      simp only [Wrong]
      go_wp2
      refine ⟨rfl, ?_⟩
      rw [HE.out]
      exact ReadPost.mk_no HG.out rfl

set_option maxRecDepth 100000 in
set_option maxHeartbeats 1600000 in
theorem key_any (R : Nat) (bs : List UInt8) (w : World) (hr : Rd w R bs) :
    Calls Try.prog 43 #[.pointer (some ⟨R, 0, none⟩)] w (ReadPost w R f64v (getKey bs)) := by
  have HR := Lib.hid hr
  clear hr
  by_cases h8 : 8 ≤ bs.length
  · have H8 := Lib.hid h8
    clear h8
    go_enter Try.func43, Try.ntmps43
    go_wp2_with fail
    refine (take_ok R 8 bs _ HR.out H8.out).mono ?_
    rintro e w' ⟨a, cap, rfl, hrow, hc1, hc2, hnil, hrd, hg⟩
    have HROW := Lib.hid hrow
    have HRD := Lib.hid hrd
    have HG := Lib.hid hg
    clear hrow hnil hrd hg
    obtain ⟨wo, rfl⟩ : ∃ wo : World, wo = w' := ⟨_, rfl⟩
    go_wp2_with fail
    go_loopw [3, 11] (fun u i wr => ∃ (k un : Nat), k ≤ 8 ∧ Hid (un = be ((bs.take 8).take k)) ∧ u = .int .u64 (un : Nat) ∧ i = .int .i64 k ∧ SameW wo wr) (fun _ i _ => 8 - (intOf i).toNat)
    case atStart => exact ⟨0, 0, by omega, rfl, rfl, rfl, rfl⟩
    case round =>
      obtain ⟨k, un, hk, HU, rfl, rfl, hsame⟩ := hrel
      have hsame : wo = wr := hsame
      subst hsame
      have hl8 : (bs.take 8).length = 8 := HROW.out.1
      by_cases hlt : k < 8
      · obtain ⟨b, off, rfl, x, hx, hxb, hcell⟩ := HROW.out.at k hlt
        have hun : un < 72057594037927936 := by
          have h1 := be_lt ((bs.take 8).take k) k (by rw [List.length_take, hl8]; omega)
          have h2 : 256 ^ k ≤ 256 ^ 7 := Nat.pow_le_pow_right (by decide) (by omega)
          rw [HU.out]
          omega
        have hor := or8 un x hun hx
        have hsnoc : un * 256 + x = be ((bs.take 8).take (k + 1)) := by
          rw [List.take_succ_eq_append_getElem (by rw [hl8]; exact hlt), be_snoc, HU.out]
          have e1 := hxb.out
          rw [List.getD_eq_getElem?_getD, List.getElem?_eq_getElem (by rw [hl8]; exact hlt)] at e1
          rw [← e1]
          rfl
        have HS := Lib.hid hsnoc
        have hV : un * 256 + x < 18446744073709551616 := by omega
        obtain ⟨V, hV2⟩ : ∃ V, V = un * 256 + x := ⟨_, rfl⟩
        rw [← hV2] at hor HS hV
        clear hsnoc hxb hl8 hV2 hun
        have hkl : (k : Int) < 8 := by omega
        go_wp2_with fail
        go_roundw
        case rel => exact ⟨k + 1, V, by omega, HS, rfl, by go_num, rfl⟩
        case measure => simp [intOf]; omega
      · have hke : k = 8 := by omega
        subst hke
        have hue : un = be (bs.take 8) := by rw [HU.out, List.take_of_length_le (by rw [hl8]; omega)]
        have hlt64 : un < 18446744073709551616 := by
          rw [hue]
          exact be_lt (bs.take 8) 8 hl8
        have HUE := Lib.hid hue
        have HLT := Lib.hid hlt64
        clear hl8 hue hlt64 HU
        go_wp2_with fail
        refine (from_any un _ HLT.out).mono ?_
        rintro e w2 ⟨rfl, rfl⟩
        cases hcode : Flo.isCode un with
        | true =>
          have e : getKey bs = some (Flo.of un, bs.drop 8) := by rw [getKey, if_pos ⟨H8.out, by rw [← HUE.out]; exact hcode⟩, ← HUE.out]
          rw [if_pos rfl]
          have HE := Lib.hid e
          clear e hcode
          go_wp2_with fail
          go_ret
          rw [HE.out]
          exact ReadPost.mk_ok HG.out rfl HRD.out
        | false =>
          have e : getKey bs = none := by rw [getKey, if_neg (fun h => by have := h.2; rw [← HUE.out, hcode] at this; cases this)]
          rw [if_neg (by simp)]
          have HE := Lib.hid e
          clear e hcode
          go_wp2_with fail
          refine (fail_any R 30 _).mono ?_
          rintro e w'' ⟨rfl, rfl⟩
          simp only [Wrong]
          go_wp2
          refine ⟨rfl, ?_⟩
          rw [HE.out]
          exact ReadPost.mk_no HG.out rfl
  · have e : getKey bs = none := by rw [getKey, if_neg (fun h => h8 h.1)]
    rw [e]
    have H8 := Lib.hid h8
    clear h8 e
    go_enter Try.func43, Try.ntmps43
    go_wp2_with fail
    refine (take_no R 8 bs _ HR.out (by have := H8.out; omega)).mono ?_
    rintro e w' ⟨rfl, rfl⟩
    simp only [Wrong]
    go_wp2
    exact ⟨rfl, ReadPost.mk_no (World.grownBy.refl _ _) rfl⟩

theorem Rd.below {w w' : World} {R : Nat} {bs : List UInt8} (h : Rd w R bs) (hb : Below w.heap.size w w') : Rd w' R bs := by
  obtain ⟨a, n, c, hR, hrow, h1, h2, h3⟩ := h
  exact ⟨a, n, c, (hb.block R (lt_of_block hR)).trans hR, hrow.below hb, h1, h2, h3⟩
theorem grown_below {w w1 w' : World} {r : Option Nat} (h : w.grownBy w1 r) (hb : Below w1.heap.size w1 w') : w.grownBy w' r :=
  ⟨hb.os.trans h.os, hb.tape.trans h.tape, hb.output.trans h.output, Nat.le_trans h.size hb.size, fun k hk hn => (hb.block k (Nat.lt_of_lt_of_le hk h.size)).trans (h.block k hk hn)⟩

/-- A reading whose value lies in memory of its own. -/
def ReadPostE {α : Type} (w : World) (R : Nat) (V : α → Value → World → Prop) (res : Option (α × List UInt8)) (e : Ending) (w' : World) : Prop :=
  w.grownBy w' (some R) ∧ (∀ n rest, res = some (n, rest) → ∃ v, e = .returned v ∧ V n v w' ∧ Rd w' R rest) ∧ (res = none → e = Wrong 30)
theorem ReadPostE.mk_ok {α : Type} {w : World} {R : Nat} {V : α → Value → World → Prop} {n : α} {rest : List UInt8} {e : Ending} {w' : World} {v : Value} (hg : w.grownBy w' (some R)) (he : e = .returned v) (hv : V n v w') (hr : Rd w' R rest) : ReadPostE w R V (some (n, rest)) e w' :=
  ⟨hg, fun m r hm => by injection hm with hm; injection hm with h1 h2; subst h1 h2; exact ⟨v, he, hv, hr⟩, fun h => by cases h⟩
theorem ReadPostE.mk_no {α : Type} {w : World} {R : Nat} {V : α → Value → World → Prop} {e : Ending} {w' : World} (hg : w.grownBy w' (some R)) (he : e = Wrong 30) : ReadPostE w R V (none : Option (α × List UInt8)) e w' :=
  ⟨hg, (fun _ _ h => by cases h), fun _ => he⟩
theorem ReadPostE.ok {α : Type} {w : World} {R : Nat} {V : α → Value → World → Prop} {res : Option (α × List UInt8)} {e : Ending} {w' : World} (h : ReadPostE w R V res e w') {n : α} {rest : List UInt8} (hr : res = some (n, rest)) : ∃ v, e = .returned v ∧ V n v w' ∧ Rd w' R rest ∧ w.grownBy w' (some R) := by
  obtain ⟨v, h1, h2, h3⟩ := h.2.1 n rest hr
  exact ⟨v, h1, h2, h3, h.1⟩
theorem ReadPostE.no {α : Type} {w : World} {R : Nat} {V : α → Value → World → Prop} {res : Option (α × List UInt8)} {e : Ending} {w' : World} (h : ReadPostE w R V res e w') (hr : res = none) : e = Wrong 30 ∧ w.grownBy w' (some R) := ⟨h.2.2 hr, h.1⟩

/-- bytes in memory that the call made -/
def OwnBytes (base : Nat) (bs : List UInt8) (v : Value) (w' : World) : Prop := ∃ ao n c, v = .slice ao n c ∧ Own8 w' base ao n c bs

theorem getCount_some {most : Int} {bs r : List UInt8} {n : Int} (h : getCount most bs = some (n, r)) : 0 ≤ n ∧ n ≤ most := by
  unfold getCount at h
  split at h
  · cases h
  · split at h
    · cases h
    · injection h with h
      injection h with h1 _
      omega

set_option maxRecDepth 100000 in
set_option maxHeartbeats 1600000 in
theorem bytes_any (R : Nat) (bs : List UInt8) (w : World) (hr : Rd w R bs) :
    Calls Try.prog 44 #[.pointer (some ⟨R, 0, none⟩)] w (ReadPostE w R (OwnBytes w.heap.size) (getBytes bs)) := by
  have hc := count_any R 4096 bs w hr
  cases hg : getCount 4096 bs with
  | none =>
    have e : getBytes bs = none := by rw [getBytes, hg]
    rw [hg] at hc
    have HC := Lib.hid hc
    have HE := Lib.hid e
    clear hc hr hg e
    go_enter Try.func44, Try.ntmps44
    go_wp2_with fail
    refine HC.out.mono ?_
    intro e w' hp
    obtain ⟨rfl, hgr⟩ := hp.no rfl
    simp only [Wrong]
    go_wp2
    refine ⟨rfl, ?_⟩
    rw [HE.out]
    exact ReadPostE.mk_no hgr rfl
  | some p =>
    obtain ⟨n, r⟩ := p
    obtain ⟨h0, h1⟩ := getCount_some hg
    obtain ⟨k, rfl⟩ : ∃ k : Nat, n = (k : Int) := ⟨n.toNat, by omega⟩
    have e : getBytes bs = if k ≤ r.length then some (r.take k, r.drop k) else none := by rw [getBytes, hg]; rfl
    rw [hg] at hc
    have HC := Lib.hid hc
    have HE := Lib.hid e
    clear hc hr hg e
    go_enter Try.func44, Try.ntmps44
    go_wp2_with fail
    refine HC.out.mono ?_
    intro e w1 hp
    obtain ⟨rfl, hrd, hgr⟩ := hp.ok rfl
    simp only [i64v]
    by_cases hk : k ≤ r.length
    · have HK := Lib.hid hk
      clear hk hp
      go_wp2_with fail
      refine (take_ok R k r _ hrd HK.out).mono ?_
      rintro e w2 ⟨a, cap, rfl, hrow, hc1, hc2, hnil, hrd2, hg2⟩
      have hz1 := hgr.size
      have hz2 := hg2.size
      have HRD2 := Lib.hid hrd2
      have HNIL := Lib.hid hnil
      clear hrd hrd2 hnil
      go_wp2_with fail
      refine (clone_any a k cap (r.take k) _ hrow (fun h => by have := HNIL.out h; omega) (by omega)).mono ?_
      rintro e w3 ⟨ao, c3, rfl, hown, hb3⟩
      go_wp2_with fail
      go_ret
      rw [HE.out, if_pos HK.out]
      exact ReadPostE.mk_ok (grown_below (grown_step hgr hg2 (.inl rfl)) hb3) rfl ⟨ao, k, c3, rfl, hown.more (by omega)⟩ (HRD2.out.below hb3)
    · have HK := Lib.hid hk
      clear hk hp
      go_wp2_with fail
      refine (take_no R k r _ hrd (by have := HK.out; omega)).mono ?_
      rintro e w2 ⟨rfl, rfl⟩
      simp only [Wrong]
      go_wp2
      refine ⟨rfl, ?_⟩
      rw [HE.out, if_neg HK.out]
      exact ReadPostE.mk_no hgr rfl
end Go.Proofs.Ytdpajcamgipgkaa
