/- The reader's Flag and Bytes; values as bytes and back, the plain laws (out of the texts of pack). -/
import Derived.Test.YtcejamblndilbaaPk2
namespace Go.Proofs.Ytcejamblndilbaa
open Go.RowKit

theorem nat_beq (a b : Nat) : (((a : Nat) : Int) == ((b : Nat) : Int)) = decide (a = b) := by
  by_cases h : a = b
  · subst h; simp
  · simp [h]; omega
def getFlag : List UInt8 → Option (Bool × List UInt8)
  | [] => none
  | c :: r => if c.toNat ≤ 1 then some (decide (c.toNat = 1), r) else none
def getBytes (bs : List UInt8) : Option (List UInt8 × List UInt8) :=
  match getCount 4096 bs with
  | none => none
  | some (n, r) => if n.toNat ≤ r.length then some (r.take n.toNat, r.drop n.toNat) else none
def f64v (x : Nat) : Value := .float .f64 x
def boolv (b : Bool) : Value := .bool b
set_option maxRecDepth 100000 in
set_option maxHeartbeats 1600000 in
theorem flag_any (R : Nat) (bs : List UInt8) (w : World) (hr : Rd w R bs) :
    Calls Try.prog 83 #[.pointer (some ⟨R, 0, none⟩)] w (ReadPost w R boolv (getFlag bs)) := by
  have HR := Lib.hid hr
  clear hr
  cases bs with
  | nil =>
    go_enter Try.func83, Try.ntmps83
    go_wp2_with fail
    refine (take_no R 1 [] _ HR.out (by decide)).mono ?_
    rintro e w' ⟨rfl, rfl⟩
    simp only [Wrong]
    go_wp2
    exact ⟨rfl, ReadPost.mk_no (World.grownBy.refl _ _) rfl⟩
  | cons c r =>
    go_enter Try.func83, Try.ntmps83
    go_wp2_with fail
    refine (take_ok R 1 (c :: r) _ HR.out (by simp)).mono ?_
    rintro e w' ⟨a, cap, rfl, hrow, hc1, hc2, hnil, hrd, hg⟩
    obtain ⟨b, off, rfl, x, hx, hxb, hcell⟩ := hrow.at 0 (by omega)
    rw [Nat.add_zero] at hcell
    have hxc : c.toNat = x := hxb.out
    have HXC := Lib.hid hxc
    have HRD : Hid (Rd w' R r) := hrd
    have HG := Lib.hid hg
    clear hxc hxb hrow hnil hrd hg
    by_cases h1 : x ≤ 1
    · have h1' : ¬ (1 : Int) < (x : Int) := by omega
      have e : getFlag (c :: r) = some (decide (c.toNat = 1), r) := by rw [getFlag, if_pos (by rw [HXC.out]; exact h1)]
      have HE := Lib.hid e
      clear e
      go_wp2_with fail
      go_ret
      rw [HE.out]
      refine ReadPost.mk_ok HG.out ?_ HRD.out
      rw [HXC.out]
      show Ending.returned (.bool ((x : Int) == ((1 : Nat) : Int))) = _
      rw [nat_beq]
      rfl
    · have h1' : (1 : Int) < (x : Int) := by omega
      have e : getFlag (c :: r) = none := by rw [getFlag, if_neg (by rw [HXC.out]; exact h1)]
      have HE := Lib.hid e
      clear e
      go_wp2_with fail
      refine (fail_any R 30 _).mono ?_
      rintro e w'' ⟨rfl, rfl⟩
      simp only [Wrong]
      go_wp2
      refine ⟨rfl, ?_⟩
      rw [HE.out]
      exact ReadPost.mk_no HG.out rfl
/-- A reading whose value lies in memory of its own. -/
def ReadPostE {α : Type} (w : World) (R : Nat) (V : α → Value → World → Prop) (res : Option (α × List UInt8)) (e : Ending) (w' : World) : Prop :=
  w.grownBy w' (some R) ∧ (∀ n rest, res = some (n, rest) → ∃ v, e = .returned v ∧ V n v w' ∧ Rd w' R rest) ∧ (res = none → e = Wrong 30)
theorem ReadPostE.mk_ok {α : Type} {w : World} {R : Nat} {V : α → Value → World → Prop} {n : α} {rest : List UInt8} {e : Ending} {w' : World} {v : Value} (hg : w.grownBy w' (some R)) (he : e = .returned v) (hv : V n v w') (hr : Rd w' R rest) : ReadPostE w R V (some (n, rest)) e w' :=
  ⟨hg, fun m r hm => by injection hm with hm; injection hm with h1 h2; subst h1 h2; exact ⟨v, he, hv, hr⟩, fun h => by cases h⟩
theorem ReadPostE.mk_no {α : Type} {w : World} {R : Nat} {V : α → Value → World → Prop} {e : Ending} {w' : World} (hg : w.grownBy w' (some R)) (he : e = Wrong 30) : ReadPostE w R V (none : Option (α × List UInt8)) e w' :=
  ⟨hg, (fun _ _ h => by cases h), fun _ => he⟩
theorem ReadPostE.ok {α : Type} {w : World} {R : Nat} {V : α → Value → World → Prop} {res : Option (α × List UInt8)} {e : Ending} {w' : World} (h : ReadPostE w R V res e w') {n : α} {rest : List UInt8} (hr : res = some (n, rest)) : ∃ v, e = .returned v ∧ V n v w' ∧ Rd w' R rest ∧ w.grownBy w' (some R) := by
  obtain ⟨v, h1, h2, h3⟩ := h.2.1 n rest hr
  exact ⟨v, h1, h2, h3, h.1⟩
theorem ReadPostE.no {α : Type} {w : World} {R : Nat} {V : α → Value → World → Prop} {res : Option (α × List UInt8)} {e : Ending} {w' : World} (h : ReadPostE w R V res e w') (hr : res = none) : e = Wrong 30 ∧ w.grownBy w' (some R) := ⟨h.2.2 hr, h.1⟩
/-- bytes in memory that the call made -/
def OwnBytes (base : Nat) (bs : List UInt8) (v : Value) (w' : World) : Prop := ∃ ao n c, v = .slice ao n c ∧ Own8 w' base ao n c bs
theorem getCount_some {most : Int} {bs r : List UInt8} {n : Int} (h : getCount most bs = some (n, r)) : 0 ≤ n ∧ n ≤ most := by
  unfold getCount at h
  split at h
  · cases h
  · split at h
    · cases h
    · injection h with h
      injection h with h1 _
      omega
set_option maxRecDepth 100000 in
set_option maxHeartbeats 1600000 in
theorem bytes_any (R : Nat) (bs : List UInt8) (w : World) (hr : Rd w R bs) :
    Calls Try.prog 84 #[.pointer (some ⟨R, 0, none⟩)] w (ReadPostE w R (OwnBytes w.heap.size) (getBytes bs)) := by
  have hc := count_any R 4096 bs w hr
  cases hg : getCount 4096 bs with
  | none =>
    have e : getBytes bs = none := by rw [getBytes, hg]
    rw [hg] at hc
    have HC := Lib.hid hc
    have HE := Lib.hid e
    clear hc hr hg e
    go_enter Try.func84, Try.ntmps84
    go_wp2_with fail
    refine HC.out.mono ?_
    intro e w' hp
    obtain ⟨rfl, hgr⟩ := hp.no rfl
    simp only [Wrong]
    go_wp2
    refine ⟨rfl, ?_⟩
    rw [HE.out]
    exact ReadPostE.mk_no hgr rfl
  | some p =>
    obtain ⟨n, r⟩ := p
    obtain ⟨h0, h1⟩ := getCount_some hg
    obtain ⟨k, rfl⟩ : ∃ k : Nat, n = (k : Int) := ⟨n.toNat, by omega⟩
    have e : getBytes bs = if k ≤ r.length then some (r.take k, r.drop k) else none := by rw [getBytes, hg]; rfl
    rw [hg] at hc
    have HC := Lib.hid hc
    have HE := Lib.hid e
    clear hc hr hg e
    go_enter Try.func84, Try.ntmps84
    go_wp2_with fail
    refine HC.out.mono ?_
    intro e w1 hp
    obtain ⟨rfl, hrd, hgr⟩ := hp.ok rfl
    simp only [i64v]
    by_cases hk : k ≤ r.length
    · have HK := Lib.hid hk
      clear hk hp
      go_wp2_with fail
      refine (take_ok R k r _ hrd HK.out).mono ?_
      rintro e w2 ⟨a, cap, rfl, hrow, hc1, hc2, hnil, hrd2, hg2⟩
      have hz1 := hgr.size
      have hz2 := hg2.size
      have HRD2 := Lib.hid hrd2
      have HNIL := Lib.hid hnil
      clear hrd hrd2 hnil
      go_wp2_with fail
      refine (clone_any a k cap (r.take k) _ hrow (fun h => by have := HNIL.out h; omega) (by omega)).mono ?_
      rintro e w3 ⟨ao, c3, rfl, hown, hb3⟩
      go_wp2_with fail
      go_ret
      rw [HE.out, if_pos HK.out]
      exact ReadPostE.mk_ok (grown_below (grown_step hgr hg2 (.inl rfl)) hb3) rfl ⟨ao, k, c3, rfl, hown.more (by omega)⟩ (HRD2.out.below hb3)
    · have HK := Lib.hid hk
      clear hk hp
      go_wp2_with fail
      refine (take_no R k r _ hrd (by have := HK.out; omega)).mono ?_
      rintro e w2 ⟨rfl, rfl⟩
      simp only [Wrong]
      go_wp2
      refine ⟨rfl, ?_⟩
      rw [HE.out, if_neg HK.out]
      exact ReadPostE.mk_no hgr rfl
theorem pow_step (i : Nat) (h : i ≤ 8) : 2 ^ (64 - 7 * i) = 128 * 2 ^ (64 - 7 * (i + 1)) := by
  rw [show 64 - 7 * i = 7 + (64 - 7 * (i + 1)) from by omega, Nat.pow_add]
theorem pow_up (i : Nat) : 2 ^ (7 * (i + 1)) = 128 * 2 ^ (7 * i) := by
  rw [show 7 * (i + 1) = 7 + 7 * i from by omega, Nat.pow_add]
theorem small_byte (n : Nat) (h : n < 256) : (UInt8.ofNat n).toNat = n := by
  rw [UInt8.toNat_ofNat']
  exact Nat.mod_eq_of_lt h
theorem numGo_leb (r : List UInt8) : ∀ (f i acc u : Nat), i + f = 9 → u < 2 ^ (64 - 7 * i) → (0 < i → 0 < u) → numGo i acc (lebF (f + 1) u ++ r) = some (acc + u * 2 ^ (7 * i), r) := by
  intro f
  induction f with
  | zero =>
    intro i acc u hi hu h0
    obtain rfl : i = 9 := by omega
    have hu' : u < 2 := by simpa using hu
    have hb := small_byte u (by omega)
    rw [lebF, if_pos (by omega), List.cons_append, List.nil_append, numGo_last _ _ _ _ (by rw [hb]; omega) (by rw [hb]; omega), hb, Nat.mod_eq_of_lt (by omega)]
  | succ f ih =>
    intro i acc u hi hu h0
    by_cases h : u < 128
    · have hb := small_byte u (by omega)
      rw [lebF, if_pos h, List.cons_append, List.nil_append, numGo_last _ _ _ _ (by rw [hb]; omega) (by rw [hb]; omega), hb, Nat.mod_eq_of_lt h]
    · have hb := small_byte (u % 128 + 128) (by omega)
      rw [lebF, if_neg h, List.cons_append, numGo_more _ _ _ _ (by rw [hb]; omega) (by rw [hb]; omega), hb, ih (i + 1) _ _ (by omega) (by rw [pow_step i (by omega)] at hu; omega) (fun _ => by omega)]
      have e : (u % 128 + 128) % 128 = u % 128 := by omega
      rw [e, pow_up, Nat.add_assoc, ← Nat.mul_assoc, ← Nat.add_mul]
      have e2 : u % 128 + u / 128 * 128 = u := by omega
      rw [e2]
theorem leb_numGo (bs : List UInt8) : ∀ (f i acc v : Nat) (r : List UInt8), i + f = 9 → numGo i acc bs = some (v, r) → ∃ u, v = acc + u * 2 ^ (7 * i) ∧ bs = lebF (f + 1) u ++ r ∧ u < 2 ^ (64 - 7 * i) ∧ (0 < i → 0 < u) := by
  induction bs with
  | nil => intro f i acc v r _ h; cases h
  | cons c t ih =>
    intro f i acc v r hi h
    have hc := c.toNat_lt
    by_cases hf : i = 9 ∧ 1 < c.toNat ∨ 0 < i ∧ c.toNat = 0
    · rw [numGo_fail _ _ _ _ hf] at h; cases h
    · by_cases h1 : c.toNat < 128
      · rw [numGo_last _ _ _ _ hf h1] at h
        injection h with h
        injection h with h2 h3
        subst h2 h3
        refine ⟨c.toNat, by rw [Nat.mod_eq_of_lt h1], ?_, ?_, fun h0 => by omega⟩
        · rw [lebF, if_pos h1, UInt8.ofNat_toNat]; rfl
        · by_cases h9 : i = 9
          · subst h9
            show c.toNat < 2
            omega
          · rw [pow_step i (by omega)]
            have : 0 < 2 ^ (64 - 7 * (i + 1)) := Nat.two_pow_pos _
            exact Nat.lt_of_lt_of_le h1 (Nat.le_mul_of_pos_right _ this)
      · rw [numGo_more _ _ _ _ hf h1] at h
        have hi9 : i ≠ 9 := fun e => hf (.inl ⟨e, by omega⟩)
        obtain ⟨g, rfl⟩ : ∃ g, f = g + 1 := ⟨f - 1, by omega⟩
        obtain ⟨u, rfl, rfl, hu, h0⟩ := ih g (i + 1) _ _ _ (by omega) h
        have hu0 := h0 (by omega)
        refine ⟨c.toNat % 128 + 128 * u, ?_, ?_, ?_, fun _ => by omega⟩
        · rw [pow_up, Nat.add_assoc, Nat.add_mul, ← Nat.mul_assoc, Nat.mul_comm u 128]
        · have e1 : (c.toNat % 128 + 128 * u) % 128 + 128 = c.toNat := by omega
          have e2 : (c.toNat % 128 + 128 * u) / 128 = u := by omega
          have e3 : lebF (g + 1 + 1) (c.toNat % 128 + 128 * u) = c :: lebF (g + 1) u := by rw [show lebF (g + 1 + 1) (c.toNat % 128 + 128 * u) = UInt8.ofNat ((c.toNat % 128 + 128 * u) % 128 + 128) :: lebF (g + 1) ((c.toNat % 128 + 128 * u) / 128) from by rw [lebF, if_neg (by omega)], e1, e2, UInt8.ofNat_toNat]
          rw [e3]
          rfl
        · rw [pow_step i (by omega)]
          omega
theorem zag_zig (n : Int) : zag (zig n) = n := by
  unfold zag zig
  split <;> split <;> omega
theorem zig_zag (u : Nat) : zig (zag u) = u := by
  unfold zag zig
  split <;> split <;> omega
theorem zag_range (u : Nat) (h : u < 2 ^ 64) : -9223372036854775808 ≤ zag u ∧ zag u ≤ 9223372036854775807 := by
  unfold zag
  split <;> omega
theorem getNum_num (n : Int) (r : List UInt8) (h : -9223372036854775808 ≤ n ∧ n ≤ 9223372036854775807) : getNum (numBytes n ++ r) = some (n, r) := by
  have := numGo_leb r 9 0 0 (zig n) rfl (zig_lt n h) (fun h => absurd h (by omega))
  rw [getNum, numBytes, this]
  simp [zag_zig]
theorem num_getNum {bs r : List UInt8} {n : Int} (h : getNum bs = some (n, r)) : bs = numBytes n ++ r ∧ -9223372036854775808 ≤ n ∧ n ≤ 9223372036854775807 := by
  rw [getNum] at h
  cases hg : numGo 0 0 bs with
  | none => rw [hg] at h; cases h
  | some p =>
    obtain ⟨v, r'⟩ := p
    rw [hg] at h
    simp only [Option.map_some, Option.some.injEq, Prod.mk.injEq] at h
    obtain ⟨rfl, rfl⟩ := h
    obtain ⟨u, h1, h2, h3, _⟩ := leb_numGo bs 9 0 0 v r' rfl hg
    have e : u = v := by simpa using h1.symm
    subst e
    refine ⟨by rw [numBytes, zig_zag]; exact h2, zag_range u h3⟩
theorem getBytes_bytes (ys r : List UInt8) (h : ys.length ≤ 4096) : getBytes (numBytes ys.length ++ (ys ++ r)) = some (ys, r) := by
  have h1 : getCount 4096 (numBytes ys.length ++ (ys ++ r)) = some ((ys.length : Int), ys ++ r) := by
    rw [getCount, getNum_num _ _ (by omega)]
    simp only
    rw [if_neg (by omega)]
  rw [getBytes, h1]
  simp
theorem bytes_getBytes {bs ys r : List UInt8} (h : getBytes bs = some (ys, r)) : bs = numBytes ys.length ++ (ys ++ r) ∧ ys.length ≤ 4096 := by
  rw [getBytes] at h
  cases hc : getCount 4096 bs with
  | none => rw [hc] at h; cases h
  | some p =>
    obtain ⟨n, t⟩ := p
    obtain ⟨h0, h1⟩ := getCount_some hc
    have hn : getNum bs = some (n, t) := by
      rw [getCount] at hc
      split at hc
      · cases hc
      · split at hc
        · cases hc
        · rename_i heq _
          rw [heq, ← hc]
    obtain ⟨k, rfl⟩ : ∃ k : Nat, n = (k : Int) := ⟨n.toNat, by omega⟩
    rw [hc] at h
    simp only [Int.toNat_natCast] at h
    split at h
    · injection h with h
      injection h with h2 h3
      subst h2 h3
      have hl : (t.take k).length = k := by rw [List.length_take]; omega
      rw [hl, List.take_append_drop]
      exact ⟨(num_getNum hn).1, by omega⟩
    · cases h
theorem getFlag_flag (b : Bool) (r : List UInt8) : getFlag ((if b then 1 else 0) :: r) = some (b, r) := by cases b <;> rfl
theorem flag_getFlag {bs r : List UInt8} {b : Bool} (h : getFlag bs = some (b, r)) : bs = (if b then 1 else 0) :: r := by
  cases bs with
  | nil => cases h
  | cons c t =>
    rw [getFlag] at h
    split at h
    · injection h with h
      injection h with h1 h2
      subst h1 h2
      have : c.toNat = 0 ∨ c.toNat = 1 := by omega
      rcases this with h | h
      · rw [h]
        have : c = 0 := UInt8.toNat_inj.1 h
        rw [this]; rfl
      · rw [h]
        have : c = 1 := UInt8.toNat_inj.1 h
        rw [this]; rfl
    · cases h
end Go.Proofs.Ytcejamblndilbaa
