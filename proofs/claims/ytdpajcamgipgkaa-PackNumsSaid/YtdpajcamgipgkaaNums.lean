/- PackNums: each number has as few bytes as may be, and keeps its sign: the walk. -/
import Derived.Test.YtdpajcamgipgkaaOnes
namespace Go.Proofs.Ytdpajcamgipgkaa
open Go.RowKit

theorem leb_mono (f : Nat) : ∀ u v, u ≤ v → (lebF f u).length ≤ (lebF f v).length := by
  induction f with
  | zero => intro u v _; exact Nat.le_refl _
  | succ f ih =>
    intro u v h
    rw [lebF, lebF]
    split
    · split
      · exact Nat.le_refl _
      · simp
    · rename_i hu
      rw [if_neg (by omega)]
      simp only [List.length_cons]
      have := ih (u / 128) (v / 128) (by omega)
      omega
theorem leb_top (f : Nat) : ∀ u, u < 2 ^ (7 * f) → ∀ i, i < (lebF f u).length → (128 ≤ ((lebF f u).getD i 0).toNat ↔ i + 1 < (lebF f u).length) := by
  induction f with
  | zero => intro u _ i hi; simp [lebF] at hi
  | succ f ih =>
    intro u hu i hi
    rw [lebF] at hi ⊢
    split
    · rename_i h
      rw [if_pos h] at hi
      have hb := small_byte u (by omega)
      have : i = 0 := by simpa using hi
      subst this
      simp only [List.getD_cons_zero, List.length_singleton]
      rw [hb]
      omega
    · rename_i h
      rw [if_neg h] at hi
      have hu' : u / 128 < 2 ^ (7 * f) := by rw [pow_up] at hu; omega
      have hpos : 1 ≤ (lebF f (u / 128)).length := by
        cases f with
        | zero => simp at hu'; omega
        | succ g => rw [lebF]; split <;> simp
      have hb := small_byte (u % 128 + 128) (by omega)
      cases i with
      | zero =>
        simp only [List.getD_cons_zero, List.length_cons]
        rw [hb]
        omega
      | succ i =>
        simp only [List.length_cons] at hi ⊢
        simp only [List.getD_cons_succ]
        rw [ih _ hu' i (by omega)]
        omega
theorem nums_top (n : Int) (h : -9223372036854775808 ≤ n ∧ n ≤ 9223372036854775807) (i : Nat) (hi : i < (numBytes n).length) : (128 ≤ ((numBytes n).getD i 0).toNat ↔ i + 1 < (numBytes n).length) := by
  have h1 := zig_lt n h
  exact leb_top 10 (zig n) (Nat.lt_of_lt_of_le h1 (Nat.pow_le_pow_right (by decide) (by decide))) i hi
theorem nums_mono (n m : Int) (h : 0 ≤ n ∧ n ≤ m ∨ n < 0 ∧ m ≤ n) : (numBytes n).length ≤ (numBytes m).length := by
  refine leb_mono 10 _ _ ?_
  unfold zig
  split <;> split <;> omega
theorem nums_one (n : Int) : (numBytes n).length = 1 ↔ -64 ≤ n ∧ n < 64 := by
  have h : (numBytes n).length = 1 ↔ zig n < 128 := by
    rw [numBytes, lebF]
    split
    · rename_i h; simp [h]
    · rename_i h
      simp only [List.length_cons]
      have : 1 ≤ (lebF 9 (zig n / 128)).length := by rw [lebF]; split <;> simp
      omega
  rw [h]
  unfold zig
  split <;> omega
theorem nums_first (n : Int) : ((numBytes n).getD 0 0).toNat % 2 = if n < 0 then 1 else 0 := by
  have h : ((numBytes n).getD 0 0).toNat % 2 = zig n % 2 := by
    rw [numBytes, lebF]
    split
    · rename_i h
      simp only [List.getD_cons_zero]
      rw [small_byte _ (by omega)]
    · simp only [List.getD_cons_zero]
      rw [small_byte _ (by omega)]
      omega
  rw [h]
  unfold zig
  split <;> omega
theorem and1b (c : Nat) (h : c < 256) : bits .and .u8 (c : Int) 1 = ((c % 2 : Nat) : Int) := by
  have e : c &&& 1 = c % 2 := Nat.and_two_pow_sub_one_eq_mod c 1
  show IntKind.u8.wrap ((BitVec.ofInt 8 (c : Int) &&& BitVec.ofInt 8 1).toNat : Int) = _
  rw [BitVec.toNat_and, BitVec.ofInt_natCast, BitVec.toNat_ofNat, Nat.mod_eq_of_lt (show c < 2 ^ 8 by omega)]
  show IntKind.u8.wrap ((c &&& 1 : Nat) : Int) = _
  rw [e, IntKind.wrap_u8]
  omega

/-- one number put -/
theorem putNum_one (n : Int) (h : -9223372036854775808 ≤ n ∧ n ≤ 9223372036854775807) (w : World) :
    Calls Try.prog 33 #[.slice (some ⟨w.heap.size, 0, none⟩) 1 1] (w.alloc (.cells #[.int .i64 1, .int .i64 n, .float .f64 0, .slice none 0 0, .bool false] 63))
      (RetBytesCode (w.alloc (.cells #[.int .i64 1, .int .i64 n, .float .f64 0, .slice none 0 0, .bool false] 63)) (numBytes n).length (numBytes n) 0) := by
  have hp := put_any (some ⟨w.heap.size, 0, none⟩) 1 1 [⟨1, n, 0, ⟨none, 0, 0, []⟩, false⟩] (w.alloc (.cells #[.int .i64 1, .int .i64 n, .float .f64 0, .slice none 0 0, .bool false] 63)) (RowN.of_block (heap_alloc_new w _) rfl rfl) rfl (by
    intro v hv
    rw [List.mem_singleton] at hv
    subst hv
    exact ⟨⟨Row8.nil _ _, Nat.le_refl _, Nat.zero_le _, fun _ => rfl⟩, by simp, h, by simp⟩) (by simp [bulkV])
  have e : putAll [⟨1, n, 0, ⟨none, 0, 0, []⟩, false⟩] [] = (numBytes n, 0) := by simp [putAll, Vl.err, Vl.bytes]
  rw [e] at hp
  exact hp

theorem getV_num (n : Int) (h : -9223372036854775808 ≤ n ∧ n ≤ 9223372036854775807) : getV [1] (numBytes n) = ([⟨1, n, 0, [], false⟩], 0) := by
  have := getAcc_bytes [] [⟨1, n, 0, [], false⟩] (fun p hp => by rw [List.mem_singleton] at hp; subst hp; exact ⟨by simp, h, by simp, by simp⟩) []
  exact getV_yes (by simp) (by simpa [Pv.bytes, Pv.norm] using this)

set_option maxRecDepth 100000 in
set_option maxHeartbeats 6400000 in
theorem packNums_walk (n m : Int) (w : World) (hn : (Lit.int .i64 n).wf = true) (hm : (Lit.int .i64 m).wf = true) :
    Calls Try.prog 15 #[.int .i64 n, .int .i64 m] w fun e w' => e = .returned (.bool true) ∧ Below w.heap.size w w' := by
  have hn' : -9223372036854775808 ≤ n ∧ n ≤ 9223372036854775807 := by simpa [Lit.wf, IntKind.min, IntKind.max, IntKind.signed, IntKind.bits] using hn
  have hm' : -9223372036854775808 ≤ m ∧ m ≤ 9223372036854775807 := by simpa [Lit.wf, IntKind.min, IntKind.max, IntKind.signed, IntKind.bits] using hm
  have hpn := putNum_one n hn'
  have hpm := putNum_one m hm'
  have hgv := getV_num n hn'
  have htop := nums_top n hn'
  have hmono := nums_mono n m
  have hone := nums_one n
  have hfst := nums_first n
  have hl1 := numBytes_pos n
  have hl2 := numBytes_len n
  obtain ⟨bs, hbs⟩ : ∃ bs, bs = numBytes n := ⟨_, rfl⟩
  rw [← hbs] at hpn hgv htop hmono hone hfst hl1 hl2
  obtain ⟨L, hL⟩ : ∃ L, L = bs.length := ⟨_, rfl⟩
  rw [← hL] at hpn htop hmono hone hl1 hl2
  obtain ⟨cs, hcs⟩ : ∃ cs, cs = numBytes m := ⟨_, rfl⟩
  rw [← hcs] at hpm hmono
  obtain ⟨M, hM⟩ : ∃ M, M = cs.length := ⟨_, rfl⟩
  rw [← hM] at hpm hmono
  have HPN := Lib.hid hpn
  have HPM := Lib.hid hpm
  have HGV := Lib.hid hgv
  have HTOP := Lib.hid htop
  have HMONO := Lib.hid hmono
  have HONE := Lib.hid hone
  have HFST := Lib.hid hfst
  have HL := Lib.hid hL
  clear hpn hpm hgv htop hmono hone hfst hL hM hbs hcs hn hm
  go_enter Try.func15, Try.ntmps15
  go_wp2_with fail
  refine (putting_any _).mono ?_
  rintro e w1 ⟨rfl, hb1⟩
  have hz1 := hb1.size
  go_wp2_with fail
  refine (getting_any _).mono ?_
  rintro e w2 ⟨rfl, hb2⟩
  replace hb2 := hb1.trans (hb2.mono hz1)
  have hz2 := hb2.size
  go_wp2_with fail
  refine (HPN.out w2).mono ?_
  rintro e w3 ⟨ao3, c3, rfl, hown3, hb3⟩
  have hb23 := hb2.alloc hz2 (.cells #[.int .i64 1, .int .i64 n, .float .f64 0, .slice none 0 0, .bool false] 63)
  have hbw3 := hb23.trans (hb3.mono hb23.size)
  have hz3 := hbw3.size
  clear hb1 hb2 hb3 hb23
  go_wp2_with fail
  refine (HPM.out w3).mono ?_
  rintro e w4 ⟨ao4, c4, rfl, hown4, hb4⟩
  have hb34 := hbw3.alloc hz3 (.cells #[.int .i64 1, .int .i64 m, .float .f64 0, .slice none 0 0, .bool false] 63)
  have hbw4 := hb34.trans (hb4.mono hb34.size)
  have hz4 := hbw4.size
  have hb44 : Below w3.heap.size w3 w4 := ((Below.refl _ _).alloc (Nat.le_refl _) _).trans (hb4.mono (by rw [World.size_alloc]; omega))
  have hown3' := hown3.below hb44 (Nat.le_refl _)
  have HO := Lib.hid hown3'
  have HB := Lib.hid hbw4
  clear hown3 hown3' hb44 hbw4 hb34 hb4 hown4 hbw3
  have hL2 : ¬ (L : Int) < 1 := by omega
  have hL3 : ¬ (10 : Int) < (L : Int) := by omega
  go_wp2_with fail
  go_loopw [51] (fun i wr => ∃ k : Nat, k ≤ L ∧ i = .int .i64 k ∧ SameW w4 wr) (fun i _ => L - (intOf i).toNat)
  case atStart => exact ⟨0, by omega, rfl, rfl⟩
  case round =>
    obtain ⟨k, hk, rfl, hsame⟩ := hrel
    have hsame : w4 = wr := hsame
    subst hsame
    by_cases hlt : k < L
    · obtain ⟨b, off, rfl, x, hx, hxb, hcell⟩ := HO.out.row.at k hlt
      have htk := HTOP.out k hlt
      have hxe := hxb.out
      rw [hxe] at htk
      have hkl : (k : Int) < (L : Int) := by omega
      clear hxb hxe
      by_cases hlast : k + 1 < L
      · have h128 : (128 : Int) ≤ (x : Int) := by omega
        have hkl2 : (k : Int) < (L : Int) - 1 := by omega
        clear htk
        go_wp2_with fail
        go_roundw
        case rel => exact ⟨k + 1, by omega, by go_num, rfl⟩
        case measure => simp [intOf]; omega
      · have h128 : ¬ (128 : Int) ≤ (x : Int) := by omega
        have hkl2 : ¬ (k : Int) < (L : Int) - 1 := by omega
        clear htk
        go_wp2_with fail
        go_roundw
        case rel => exact ⟨k + 1, by omega, by go_num, rfl⟩
        case measure => simp [intOf]; omega
    · have hke : k = L := by omega
      subst hke
      clear hlt
      obtain ⟨b, off, rfl, x, hx, hxb, hcell⟩ := HO.out.row.at 0 (by omega)
      rw [Nat.add_zero] at hcell
      have hfst : x % 2 = if n < 0 then 1 else 0 := by rw [← hxb.out]; exact HFST.out
      have hand := and1b x hx
      rw [hfst] at hand
      clear hfst hxb
      have hcap := HO.out.cap
      have hcase : (0 ≤ n ∧ n ≤ m ∧ ¬ (M : Int) < (k : Int)) ∨ (0 ≤ n ∧ ¬ n ≤ m) ∨ (¬ 0 ≤ n ∧ n < 0 ∧ m ≤ n ∧ ¬ (M : Int) < (k : Int)) ∨ (¬ 0 ≤ n ∧ n < 0 ∧ ¬ m ≤ n) := by
        by_cases p1 : 0 ≤ n
        · by_cases p2 : n ≤ m
          · exact .inl ⟨p1, p2, by have := HMONO.out (.inl ⟨p1, p2⟩); omega⟩
          · exact .inr (.inl ⟨p1, p2⟩)
        · by_cases p2 : m ≤ n
          · exact .inr (.inr (.inl ⟨p1, by omega, p2, by have := HMONO.out (.inr ⟨by omega, p2⟩); omega⟩))
          · exact .inr (.inr (.inr ⟨p1, by omega, p2⟩))
      have hlast : (((k : Int) == 1) = true ∧ -64 ≤ n ∧ n < 64) ∨ (((k : Int) == 1) = false ∧ ¬ -64 ≤ n) ∨ (((k : Int) == 1) = false ∧ -64 ≤ n ∧ ¬ n < 64) := by
        have := HONE.out
        by_cases q1 : -64 ≤ n
        · by_cases q2 : n < 64
          · exact .inl ⟨by simp; omega, q1, q2⟩
          · exact .inr (.inr ⟨by simp; omega, q1, q2⟩)
        · exact .inr (.inl ⟨by simp; omega, q1⟩)
      have hget := fun w' (h : Row8 w' (some ⟨b, off, none⟩) k bs) B (hB : RowN w' (some ⟨B, 0, none⟩) 1 1 (cellsI [1])) => get_any (some ⟨b, off, none⟩) k c3 bs (some ⟨B, 0, none⟩) 1 1 [1] w' h hcap.1 hcap.2 (fun h => by cases h) hB (by decide)
      rw [HGV.out] at hget
      have HGET := Lib.hid hget
      have HLAST := Lib.hid hlast
      clear hget hcap hlast
      rcases hcase with ⟨p1, p2, p3⟩ | ⟨p1, p2⟩ | ⟨p1, p0, p2, p3⟩ | ⟨p1, p0, p2⟩
      all_goals
        first
          | (have p0 : ¬ n < 0 := by omega
             rw [if_neg p0] at hand
             replace hand : bits .and .u8 (x : Int) 1 = 0 := hand)
          | (rw [if_pos p0] at hand
             replace hand : bits .and .u8 (x : Int) 1 = 1 := hand)
        go_wp2_with fail
        refine (HGET.out _ (HO.out.row.alloc _) _ (RowN.of_block (heap_alloc_new _ _) rfl rfl)).mono ?_
        rintro e w5 ⟨vs, ao5, n5, cap5, rfl, hpv, hO, hb5⟩
        obtain ⟨s, rfl, hs⟩ := map_one hpv
        obtain rfl : 1 = n5 := hO.len
        obtain ⟨b5, off5, rfl, _, hc1, _⟩ := vals_at (RowN.of_own hO.row) rfl 0 (by omega) _ rfl
        simp only [Pv.vl, Nat.zero_mul, Nat.add_zero] at hc1
        have hb6 := (HB.out.alloc hz4 (.cells #[.int .i64 1] 3)).trans (hb5.mono (by rw [World.size_alloc]; omega))
        clear hpv hs hO hb5
        rcases HLAST.out with ⟨q0, q1, q2⟩ | ⟨q0, q1⟩ | ⟨q0, q1, q2⟩
        all_goals first
          | (exfalso; omega)
          | (go_wp2_with fail
             go_ret
             exact ⟨by simp_all, hb6⟩)
end Go.Proofs.Ytdpajcamgipgkaa
