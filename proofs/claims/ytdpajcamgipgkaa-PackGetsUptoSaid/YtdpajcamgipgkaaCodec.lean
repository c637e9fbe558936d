/- Values as bytes, and back: the plain laws. No program in sight. -/
import Derived.Test.YtdpajcamgipgkaaGet
namespace Go.Proofs.Ytdpajcamgipgkaa
open Go.RowKit

/-! ### Numbers -/
theorem pow_step (i : Nat) (h : i ≤ 8) : 2 ^ (64 - 7 * i) = 128 * 2 ^ (64 - 7 * (i + 1)) := by
  rw [show 64 - 7 * i = 7 + (64 - 7 * (i + 1)) from by omega, Nat.pow_add]
theorem pow_up (i : Nat) : 2 ^ (7 * (i + 1)) = 128 * 2 ^ (7 * i) := by
  rw [show 7 * (i + 1) = 7 + 7 * i from by omega, Nat.pow_add]
theorem small_byte (n : Nat) (h : n < 256) : (UInt8.ofNat n).toNat = n := by
  rw [UInt8.toNat_ofNat']
  exact Nat.mod_eq_of_lt h
theorem numGo_leb (r : List UInt8) : ∀ (f i acc u : Nat), i + f = 9 → u < 2 ^ (64 - 7 * i) → (0 < i → 0 < u) → numGo i acc (lebF (f + 1) u ++ r) = some (acc + u * 2 ^ (7 * i), r) := by
  intro f
  induction f with
  | zero =>
    intro i acc u hi hu h0
    obtain rfl : i = 9 := by omega
    have hu' : u < 2 := by simpa using hu
    have hb := small_byte u (by omega)
    rw [lebF, if_pos (by omega), List.cons_append, List.nil_append, numGo_last _ _ _ _ (by rw [hb]; omega) (by rw [hb]; omega), hb, Nat.mod_eq_of_lt (by omega)]
  | succ f ih =>
    intro i acc u hi hu h0
    by_cases h : u < 128
    · have hb := small_byte u (by omega)
      rw [lebF, if_pos h, List.cons_append, List.nil_append, numGo_last _ _ _ _ (by rw [hb]; omega) (by rw [hb]; omega), hb, Nat.mod_eq_of_lt h]
    · have hb := small_byte (u % 128 + 128) (by omega)
      rw [lebF, if_neg h, List.cons_append, numGo_more _ _ _ _ (by rw [hb]; omega) (by rw [hb]; omega), hb, ih (i + 1) _ _ (by omega) (by rw [pow_step i (by omega)] at hu; omega) (fun _ => by omega)]
      have e : (u % 128 + 128) % 128 = u % 128 := by omega
      rw [e, pow_up, Nat.add_assoc, ← Nat.mul_assoc, ← Nat.add_mul]
      have e2 : u % 128 + u / 128 * 128 = u := by omega
      rw [e2]
theorem leb_numGo (bs : List UInt8) : ∀ (f i acc v : Nat) (r : List UInt8), i + f = 9 → numGo i acc bs = some (v, r) → ∃ u, v = acc + u * 2 ^ (7 * i) ∧ bs = lebF (f + 1) u ++ r ∧ u < 2 ^ (64 - 7 * i) ∧ (0 < i → 0 < u) := by
  induction bs with
  | nil => intro f i acc v r _ h; cases h
  | cons c t ih =>
    intro f i acc v r hi h
    have hc := c.toNat_lt
    by_cases hf : i = 9 ∧ 1 < c.toNat ∨ 0 < i ∧ c.toNat = 0
    · rw [numGo_fail _ _ _ _ hf] at h; cases h
    · by_cases h1 : c.toNat < 128
      · rw [numGo_last _ _ _ _ hf h1] at h
        injection h with h
        injection h with h2 h3
        subst h2 h3
        refine ⟨c.toNat, by rw [Nat.mod_eq_of_lt h1], ?_, ?_, fun h0 => by omega⟩
        · rw [lebF, if_pos h1, UInt8.ofNat_toNat]; rfl
        · by_cases h9 : i = 9
          · subst h9
            show c.toNat < 2
            omega
          · rw [pow_step i (by omega)]
            have : 0 < 2 ^ (64 - 7 * (i + 1)) := Nat.two_pow_pos _
            exact Nat.lt_of_lt_of_le h1 (Nat.le_mul_of_pos_right _ this)
      · rw [numGo_more _ _ _ _ hf h1] at h
        have hi9 : i ≠ 9 := fun e => hf (.inl ⟨e, by omega⟩)
        obtain ⟨g, rfl⟩ : ∃ g, f = g + 1 := ⟨f - 1, by omega⟩
        obtain ⟨u, rfl, rfl, hu, h0⟩ := ih g (i + 1) _ _ _ (by omega) h
        have hu0 := h0 (by omega)
        refine ⟨c.toNat % 128 + 128 * u, ?_, ?_, ?_, fun _ => by omega⟩
        · rw [pow_up, Nat.add_assoc, Nat.add_mul, ← Nat.mul_assoc, Nat.mul_comm u 128]
        · have e1 : (c.toNat % 128 + 128 * u) % 128 + 128 = c.toNat := by omega
          have e2 : (c.toNat % 128 + 128 * u) / 128 = u := by omega
          have e3 : lebF (g + 1 + 1) (c.toNat % 128 + 128 * u) = c :: lebF (g + 1) u := by rw [show lebF (g + 1 + 1) (c.toNat % 128 + 128 * u) = UInt8.ofNat ((c.toNat % 128 + 128 * u) % 128 + 128) :: lebF (g + 1) ((c.toNat % 128 + 128 * u) / 128) from by rw [lebF, if_neg (by omega)], e1, e2, UInt8.ofNat_toNat]
          rw [e3]
          rfl
        · rw [pow_step i (by omega)]
          omega
theorem zag_zig (n : Int) : zag (zig n) = n := by
  unfold zag zig
  split <;> split <;> omega
theorem zig_zag (u : Nat) : zig (zag u) = u := by
  unfold zag zig
  split <;> split <;> omega
theorem zag_range (u : Nat) (h : u < 2 ^ 64) : -9223372036854775808 ≤ zag u ∧ zag u ≤ 9223372036854775807 := by
  unfold zag
  split <;> omega
theorem getNum_num (n : Int) (r : List UInt8) (h : -9223372036854775808 ≤ n ∧ n ≤ 9223372036854775807) : getNum (numBytes n ++ r) = some (n, r) := by
  have := numGo_leb r 9 0 0 (zig n) rfl (zig_lt n h) (fun h => absurd h (by omega))
  rw [getNum, numBytes, this]
  simp [zag_zig]
theorem num_getNum {bs r : List UInt8} {n : Int} (h : getNum bs = some (n, r)) : bs = numBytes n ++ r ∧ -9223372036854775808 ≤ n ∧ n ≤ 9223372036854775807 := by
  rw [getNum] at h
  cases hg : numGo 0 0 bs with
  | none => rw [hg] at h; cases h
  | some p =>
    obtain ⟨v, r'⟩ := p
    rw [hg] at h
    simp only [Option.map_some, Option.some.injEq, Prod.mk.injEq] at h
    obtain ⟨rfl, rfl⟩ := h
    obtain ⟨u, h1, h2, h3, _⟩ := leb_numGo bs 9 0 0 v r' rfl hg
    have e : u = v := by simpa using h1.symm
    subst e
    refine ⟨by rw [numBytes, zig_zag]; exact h2, zag_range u h3⟩

/-! ### Keys -/
theorem be_key (u : Nat) (h : u < 18446744073709551616) : be (keyBytes u) = u := by
  have key : ∀ k, k ≤ 8 → be ((keyBytes u).take k) = u / 2 ^ (64 - 8 * k) := by
    intro k
    induction k with
    | zero => intro _; rw [List.take_zero]; exact (Nat.div_eq_of_lt h).symm
    | succ k ih =>
      intro hk
      rw [key_take u k (by omega), be_snoc, ih (by omega), small_byte _ (Nat.mod_lt _ (by decide))]
      rw [show 64 - 8 * k = (56 - 8 * k) + 8 from by omega, Nat.pow_add, ← Nat.div_div_eq_div_mul, show 64 - 8 * (k + 1) = 56 - 8 * k from by omega]
      omega
  have := key 8 (Nat.le_refl _)
  rw [List.take_of_length_le (by rw [key_len]; exact Nat.le_refl _)] at this
  simpa using this
theorem be_inj : ∀ (n : Nat) (xs ys : List UInt8), xs.length = n → ys.length = n → be xs = be ys → xs = ys := by
  intro n
  induction n with
  | zero => intro xs ys hx hy _; rw [List.eq_nil_of_length_eq_zero hx, List.eq_nil_of_length_eq_zero hy]
  | succ n ih =>
    intro xs ys hx hy he
    rcases List.eq_nil_or_concat xs with rfl | ⟨a, c, rfl⟩
    · cases hx
    rcases List.eq_nil_or_concat ys with rfl | ⟨b, d, rfl⟩
    · cases hy
    rw [List.concat_eq_append] at hx he ⊢
    rw [List.concat_eq_append] at hy he ⊢
    rw [be_snoc, be_snoc] at he
    have hc := c.toNat_lt
    have hd := d.toNat_lt
    have e1 : be a = be b := by omega
    have e2 : c = d := UInt8.toNat_inj.1 (by omega)
    rw [ih a b (by simpa using hx) (by simpa using hy) e1, e2]
theorem key_be (bs : List UInt8) (h : bs.length = 8) : keyBytes (be bs) = bs :=
  be_inj 8 _ _ (key_len _) h (be_key _ (be_lt bs 8 h))
theorem getKey_key (x : Nat) (r : List UInt8) (h : x < 18446744073709551616) : getKey (keyBytes (Flo.code x) ++ r) = some (Flo.canon x, r) := by
  have hc : Flo.code x < 18446744073709551616 := by
    rcases Flo.code_lt x with h1 | h1
    · exact h1
    · exact absurd h h1
  have ht : (keyBytes (Flo.code x) ++ r).take 8 = keyBytes (Flo.code x) := by rw [← key_len (Flo.code x), List.take_left]
  have hd : (keyBytes (Flo.code x) ++ r).drop 8 = r := by rw [← key_len (Flo.code x), List.drop_left]
  rw [getKey, ht, hd, be_key _ hc, if_pos ⟨by rw [List.length_append, key_len]; omega, Flo.isCode_code x h⟩, Flo.of_code x h]
theorem key_getKey {bs r : List UInt8} {x : Nat} (h : getKey bs = some (x, r)) : bs = keyBytes (Flo.code x) ++ r ∧ x < 18446744073709551616 ∧ Flo.canon x = x := by
  rw [getKey] at h
  split at h
  · rename_i hc
    injection h with h
    injection h with h1 h2
    subst h1 h2
    have hl : (bs.take 8).length = 8 := by rw [List.length_take]; omega
    have hlt := be_lt (bs.take 8) 8 hl
    rw [Flo.code_of_code _ hc.2, key_be _ hl]
    exact ⟨(List.take_append_drop 8 bs).symm, Flo.of_lt _ hlt, Flo.canon_of _ hlt hc.2⟩
  · cases h

/-! ### Bytes, flags -/
theorem getBytes_bytes (ys r : List UInt8) (h : ys.length ≤ 4096) : getBytes (numBytes ys.length ++ (ys ++ r)) = some (ys, r) := by
  have h1 : getCount 4096 (numBytes ys.length ++ (ys ++ r)) = some ((ys.length : Int), ys ++ r) := by
    rw [getCount, getNum_num _ _ (by omega)]
    simp only
    rw [if_neg (by omega)]
  rw [getBytes, h1]
  simp
theorem bytes_getBytes {bs ys r : List UInt8} (h : getBytes bs = some (ys, r)) : bs = numBytes ys.length ++ (ys ++ r) ∧ ys.length ≤ 4096 := by
  rw [getBytes] at h
  cases hc : getCount 4096 bs with
  | none => rw [hc] at h; cases h
  | some p =>
    obtain ⟨n, t⟩ := p
    obtain ⟨h0, h1⟩ := getCount_some hc
    have hn : getNum bs = some (n, t) := by
      rw [getCount] at hc
      split at hc
      · cases hc
      · split at hc
        · cases hc
        · rename_i heq _
          rw [heq, ← hc]
    obtain ⟨k, rfl⟩ : ∃ k : Nat, n = (k : Int) := ⟨n.toNat, by omega⟩
    rw [hc] at h
    simp only [Int.toNat_natCast] at h
    split at h
    · injection h with h
      injection h with h2 h3
      subst h2 h3
      have hl : (t.take k).length = k := by rw [List.length_take]; omega
      rw [hl, List.take_append_drop]
      exact ⟨(num_getNum hn).1, by omega⟩
    · cases h
theorem getFlag_flag (b : Bool) (r : List UInt8) : getFlag ((if b then 1 else 0) :: r) = some (b, r) := by cases b <;> rfl
theorem flag_getFlag {bs r : List UInt8} {b : Bool} (h : getFlag bs = some (b, r)) : bs = (if b then 1 else 0) :: r := by
  cases bs with
  | nil => cases h
  | cons c t =>
    rw [getFlag] at h
    split at h
    · injection h with h
      injection h with h1 h2
      subst h1 h2
      have : c.toNat = 0 ∨ c.toNat = 1 := by omega
      rcases this with h | h
      · rw [h]
        have : c = 0 := UInt8.toNat_inj.1 h
        rw [this]; rfl
      · rw [h]
        have : c = 1 := UInt8.toNat_inj.1 h
        rw [this]; rfl
    · cases h

/-! ### Values -/
def Pv.bytes (p : Pv) : List UInt8 :=
  if p.kind = 1 then numBytes p.n else if p.kind = 2 then keyBytes (Flo.code p.x) else if p.kind = 3 then numBytes p.bs.length ++ p.bs else [if p.on then 1 else 0]
/-- within the numbers' bounds -/
structure Pv.fit (p : Pv) : Prop where
  k : 1 ≤ p.kind ∧ p.kind ≤ 4
  n : -9223372036854775808 ≤ p.n ∧ p.n ≤ 9223372036854775807
  x : p.x < 18446744073709551616
  b : p.kind = 3 → p.bs.length ≤ 4096
/-- .. and with zeros in what its kind doesn't name -/
structure Pv.fine (p : Pv) : Prop where
  fit : p.fit
  n : p.kind ≠ 1 → p.n = 0
  x : p.kind ≠ 2 → p.x = 0
  b : p.kind ≠ 3 → p.bs = []
  on : p.kind ≠ 4 → p.on = false
  canon : Flo.canon p.x = p.x
def Pv.norm (p : Pv) : Pv := ⟨p.kind, if p.kind = 1 then p.n else 0, if p.kind = 2 then Flo.canon p.x else 0, if p.kind = 3 then p.bs else [], if p.kind = 4 then p.on else false⟩
theorem canon_zero : Flo.canon 0 = 0 := by decide

theorem getVal_bytes (p : Pv) (r : List UInt8) (h : p.fit) : getVal p.kind (p.bytes ++ r) = some (p.norm, r) := by
  obtain ⟨kind, n, x, bs, on⟩ := p
  obtain ⟨⟨h1, h4⟩, hn, hx, hb⟩ := h
  simp only at h1 h4 hn hx hb
  have : kind = 1 ∨ kind = 2 ∨ kind = 3 ∨ kind = 4 := by omega
  rcases this with rfl | rfl | rfl | rfl
  · simp [getVal, Pv.bytes, Pv.norm, getNum_num n r hn]
  · simp [getVal, Pv.bytes, Pv.norm, getKey_key x r hx]
  · simp [getVal, Pv.bytes, Pv.norm, getBytes_bytes bs r (hb rfl)]
  · simp [getVal, Pv.bytes, Pv.norm, getFlag_flag]
theorem bytes_getVal {kind : Int} {bs r : List UInt8} {p : Pv} (hk : 1 ≤ kind ∧ kind ≤ 4) (h : getVal kind bs = some (p, r)) : p.kind = kind ∧ bs = p.bytes ++ r ∧ p.fine := by
  have : kind = 1 ∨ kind = 2 ∨ kind = 3 ∨ kind = 4 := by omega
  rcases this with rfl | rfl | rfl | rfl
  · simp only [getVal, if_true] at h
    cases hg : getNum bs with
    | none => rw [hg] at h; cases h
    | some q =>
      obtain ⟨n, t⟩ := q
      rw [hg] at h
      simp only [Option.map_some, Option.some.injEq, Prod.mk.injEq] at h
      obtain ⟨rfl, rfl⟩ := h
      obtain ⟨h1, h2⟩ := num_getNum hg
      exact ⟨rfl, by rw [h1]; rfl, ⟨by simp, h2, by simp, fun h => by cases h⟩, fun h => absurd rfl h, fun _ => rfl, fun _ => rfl, fun _ => rfl, canon_zero⟩
  · simp only [getVal] at h
    rw [if_neg (by decide), if_pos trivial] at h
    cases hg : getKey bs with
    | none => rw [hg] at h; cases h
    | some q =>
      obtain ⟨x, t⟩ := q
      rw [hg] at h
      simp only [Option.map_some, Option.some.injEq, Prod.mk.injEq] at h
      obtain ⟨rfl, rfl⟩ := h
      obtain ⟨h1, h2, h3⟩ := key_getKey hg
      exact ⟨rfl, by rw [h1]; rfl, ⟨by simp, by simp, h2, fun h => by cases h⟩, fun _ => rfl, fun h => absurd rfl h, fun _ => rfl, fun _ => rfl, h3⟩
  · simp only [getVal] at h
    rw [if_neg (by decide), if_neg (by decide), if_pos trivial] at h
    cases hg : getBytes bs with
    | none => rw [hg] at h; cases h
    | some q =>
      obtain ⟨x, t⟩ := q
      rw [hg] at h
      simp only [Option.map_some, Option.some.injEq, Prod.mk.injEq] at h
      obtain ⟨rfl, rfl⟩ := h
      obtain ⟨h1, h2⟩ := bytes_getBytes hg
      exact ⟨rfl, by rw [h1, ← List.append_assoc]; rfl, ⟨by simp, by simp, by simp, fun _ => h2⟩, fun _ => rfl, fun _ => rfl, fun h => absurd rfl h, fun _ => rfl, canon_zero⟩
  · simp only [getVal] at h
    rw [if_neg (by decide), if_neg (by decide), if_neg (by decide), if_pos trivial] at h
    cases hg : getFlag bs with
    | none => rw [hg] at h; cases h
    | some q =>
      obtain ⟨x, t⟩ := q
      rw [hg] at h
      simp only [Option.map_some, Option.some.injEq, Prod.mk.injEq] at h
      obtain ⟨rfl, rfl⟩ := h
      exact ⟨rfl, by rw [flag_getFlag hg]; rfl, ⟨by simp, by simp, by simp, fun h => by cases h⟩, fun _ => rfl, fun _ => rfl, fun _ => rfl, fun h => absurd rfl h, canon_zero⟩

theorem getAcc_bytes (r : List UInt8) (ps : List Pv) (h : ∀ p ∈ ps, p.fit) : ∀ acc, getAcc (ps.map Pv.kind) (ps.flatMap Pv.bytes ++ r) acc = some (acc ++ ps.map Pv.norm, r) := by
  induction ps with
  | nil => intro acc; simp [getAcc]
  | cons p ps ih =>
    intro acc
    rw [List.map_cons, List.flatMap_cons, List.append_assoc, getAcc, getVal_bytes p _ (h p (List.mem_cons_self ..))]
    simp only
    rw [ih (fun q hq => h q (List.mem_cons_of_mem _ hq)), List.map_cons, List.append_assoc]
    rfl
theorem bytes_getAcc (zs : List Int) (hz : ∀ z ∈ zs, 1 ≤ z ∧ z ≤ 4) : ∀ (bs r : List UInt8) (acc ps : List Pv), getAcc zs bs acc = some (ps, r) → ∃ qs : List Pv, ps = acc ++ qs ∧ qs.map Pv.kind = zs ∧ bs = qs.flatMap Pv.bytes ++ r ∧ ∀ q ∈ qs, q.fine := by
  induction zs with
  | nil =>
    intro bs r acc ps h
    simp only [getAcc, Option.some.injEq, Prod.mk.injEq] at h
    obtain ⟨rfl, rfl⟩ := h
    exact ⟨[], by simp, rfl, rfl, fun q hq => by cases hq⟩
  | cons z zs ih =>
    intro bs r acc ps h
    rw [getAcc] at h
    cases hg : getVal z bs with
    | none => rw [hg] at h; cases h
    | some q =>
      obtain ⟨p, t⟩ := q
      rw [hg] at h
      simp only at h
      obtain ⟨h1, h2, h3⟩ := bytes_getVal (hz z (List.mem_cons_self ..)) hg
      obtain ⟨qs, rfl, rfl, rfl, h6⟩ := ih (fun q hq => hz q (List.mem_cons_of_mem _ hq)) t r _ _ h
      refine ⟨p :: qs, by simp, by rw [List.map_cons, h1], by rw [h2, List.flatMap_cons, List.append_assoc], fun q hq => ?_⟩
      rcases List.mem_cons.1 hq with rfl | hq
      · exact h3
      · exact h6 q hq
theorem norm_fine {p : Pv} (h : p.fine) : p.norm = p := by
  obtain ⟨kind, n, x, bs, on⟩ := p
  obtain ⟨_, hn, hx, hb, ho, hc⟩ := h
  simp only at hn hx hb ho hc
  simp only [Pv.norm, Pv.mk.injEq, true_and]
  refine ⟨?_, ?_, ?_, ?_⟩
  · split
    · rfl
    · rename_i h; exact (hn h).symm
  · split
    · exact hc
    · rename_i h; exact (hx h).symm
  · split
    · rfl
    · rename_i h; exact (hb h).symm
  · split
    · rfl
    · rename_i h; exact (ho h).symm
/-- What is behind the values makes nothing else of them. -/
theorem getAcc_more {zs : List Int} (hz : ∀ z ∈ zs, 1 ≤ z ∧ z ≤ 4) {bs r t : List UInt8} {ps : List Pv} (h : getAcc zs bs [] = some (ps, r)) : getAcc zs (bs ++ t) [] = some (ps, r ++ t) := by
  obtain ⟨qs, hp, rfl, rfl, hq⟩ := bytes_getAcc zs hz bs r [] ps h
  rw [List.nil_append] at hp
  subst hp
  rw [List.append_assoc, getAcc_bytes _ ps (fun q h => (hq q h).fit)]
  have e : ps.map Pv.norm = ps := by
    have : ps.map Pv.norm = ps.map id := List.map_congr_left fun q h => norm_fine (hq q h)
    rw [this, List.map_id]
  rw [e]
  rfl
end Go.Proofs.Ytdpajcamgipgkaa
