/- Unframe, the code's and the document's. -/
import Derived.Test.YtdpajcamgipgkaaFrame
namespace Go.Proofs.Ytdpajcamgipgkaa
open Go.RowKit

theorem drop_getD (bs : List UInt8) (k i : Nat) : (bs.drop k).getD i 0 = bs.getD (k + i) 0 := by
  rw [List.getD_eq_getElem?_getD, List.getD_eq_getElem?_getD, List.getElem?_drop]

/-- A cut of a row. -/
theorem Row8.cut {w : World} {b off len : Nat} {bs : List UInt8} (h : Row8 w (some ⟨b, off, none⟩) len bs) (k m : Nat) (hkm : k + m ≤ len) : Row8 w (some ⟨b, off + k, none⟩) m ((bs.drop k).take m) := by
  refine ⟨by rw [List.length_take, List.length_drop, h.1]; omega, fun i hi => ⟨b, off + k, rfl, ?_⟩⟩
  obtain ⟨b', off', he, hc⟩ := h.2 (k + i) (by omega)
  simp only [Option.some.injEq, Addr.mk.injEq, and_true] at he
  obtain ⟨rfl, rfl⟩ := he
  have e : ((bs.drop k).take m).getD i 0 = bs.getD (k + i) 0 := by
    rw [List.getD_eq_getElem?_getD, List.getElem?_take, if_pos hi, ← List.getD_eq_getElem?_getD, drop_getD]
  rw [e, ← hc, Nat.add_assoc]

theorem Row8.drewN {w : World} {a : Option Addr} {len : Nat} {bs : List UInt8} (h : Row8 w a len bs) (n : Nat) : Row8 (w.drewN n) a len bs := h

set_option maxHeartbeats 1000000 in
theorem unframe_short (a : Option Addr) (len cap : Nat) (w : World) (h : len < 8) :
    Calls Try.prog 22 #[.slice a len cap] w (RetBytesCode2 w 0 [] 0 31) := by
  have h' : (len : Int) < 8 := by omega
  go_enter Try.func22, Try.ntmps22
  go_wp2_with fail
  go_ret3
  exact ⟨_, _, rfl, Own8.nil _ _, Below.refl _ _⟩

set_option maxHeartbeats 1000000 in
theorem unframe_rest (a : Option Addr) (len cap : Nat) (bs : List UInt8) (w : World) (hr : Row8 w a len bs) (hlc : len ≤ cap) (hcm : cap ≤ maxLen) (h8 : ¬ len < 8) :
    Calls Try.prog 22 #[.slice a len cap] w (RetBytesCode2 w (Fr.unframe bs).1.length (Fr.unframe bs).1 (Fr.unframe bs).2.1 (Fr.unframe bs).2.2) := by
  have hlen := hr.1
  obtain ⟨b, off, rfl, _⟩ := hr.2 0 (by omega)
  have hl : len ≤ maxLen := Nat.le_trans hlc hcm
  have hmx : len ≤ 9223372036854775807 := by simpa [maxLen] using hl
  have hmc : cap ≤ 9223372036854775807 := by simpa [maxLen] using hcm
  have HL := Lib.hid hlen
  have HR := Lib.hid hr
  clear hr hlen
  have hn32 := Fr.unword_lt bs
  obtain ⟨n, hnw⟩ : ∃ n, n = Fr.unword bs := ⟨_, rfl⟩
  have HN := Lib.hid hnw
  rw [← hnw] at hn32
  clear hnw
  by_cases h2 : 4096 < n
  · have h2' : (4096 : Int) < (n : Int) := by omega
    go_enter Try.func22, Try.ntmps22
    go_wp2_with fail
    refine (unword_any _ len cap bs _ HR.out (by omega) hl).mono ?_
    rintro e w' ⟨rfl, q, rfl⟩
    rw [← HN.out]
    go_wp2_with fail
    go_ret3
    rw [Fr.unframe_long (by rw [HL.out]; exact h8) (by rw [← HN.out]; exact h2)]
    exact ⟨_, _, rfl, Own8.nil _ _, below_drewN (Below.refl _ _) q⟩
  by_cases h3 : len < 8 + n
  · have h2' : ¬ (4096 : Int) < (n : Int) := by omega
    have h3' : (len : Int) < 8 + (n : Int) := by omega
    go_enter Try.func22, Try.ntmps22
    go_wp2_with fail
    refine (unword_any _ len cap bs _ HR.out (by omega) hl).mono ?_
    rintro e w' ⟨rfl, q, rfl⟩
    rw [← HN.out]
    go_wp2_with fail
    go_ret3
    rw [Fr.unframe_more (by rw [HL.out]; exact h8) (by rw [← HN.out]; exact h2) (by rw [← HN.out, HL.out]; exact h3)]
    exact ⟨_, _, rfl, Own8.nil _ _, below_drewN (Below.refl _ _) q⟩
  have h2' : ¬ (4096 : Int) < (n : Int) := by omega
  have h3' : ¬ (len : Int) < 8 + (n : Int) := by omega
  have P := Lib.hid (HR.out.cut 8 n (by omega))
  have P0 : Hid (cap = 8 → Row8 w (some ⟨b, off, none⟩) n ((bs.drop 8).take n)) := fun hc => by
    have hn0 : n = 0 := by omega
    subst hn0
    exact ⟨by simp, fun i hi => absurd hi (by omega)⟩
  have P4 := Lib.hid (HR.out.cut 4 (len - 4) (by omega))
  have hc4 : ¬ cap = 4 := by omega
  have h4l : (4 : Int) ≤ (len : Int) := by omega
  have hplen : ((bs.drop 8).take n).length = n := P.out.1
  obtain ⟨p, hp⟩ : ∃ p, p = (bs.drop 8).take n := ⟨_, rfl⟩
  rw [← hp] at P P0 hplen
  have HP := Lib.hid hp
  have HPL := Lib.hid hplen
  have hu4 : Fr.unword ((bs.drop 4).take (len - 4)) = Fr.unword (bs.drop 4) := by
    rw [List.take_of_length_le (by rw [List.length_drop, HL.out]; exact Nat.le_refl _)]
  have HU4 := Lib.hid hu4
  clear hp hplen hu4
  by_cases h4 : Crc.crc p = Fr.unword ((bs.drop 4).take (len - 4))
  all_goals
    have H4 := Lib.hid h4
    have h4b : (((Crc.crc p : Nat) : Int) != (Fr.unword ((bs.drop 4).take (len - 4)) : Int)) = !decide (Crc.crc p = Fr.unword ((bs.drop 4).take (len - 4))) := by
      rw [Bool.eq_iff_iff, bne_iff_ne, Bool.not_eq_true', decide_eq_false_iff_not]
      omega
    first | rw [decide_eq_true h4] at h4b | rw [decide_eq_false h4] at h4b
    simp only [Bool.not_true, Bool.not_false] at h4b
    clear h4
    go_enter Try.func22, Try.ntmps22
    go_wp2_with fail
    refine (unword_any _ len cap bs _ HR.out (by omega) hl).mono ?_
    rintro e w' ⟨rfl, q, rfl⟩
    rw [← HN.out]
    go_wp2_with fail
    all_goals
      refine (clone_any _ n _ p _ (by first | exact P.out | exact P0.out (by assumption)) (fun h => by cases h) (by omega)).mono ?_
      rintro e w1 ⟨ao1, cap1, rfl, hown1, hb1⟩
      replace hb1 : Below w.heap.size w w1 := (below_drewN (Below.refl _ _) q).trans hb1
      replace hown1 : Own8 w1 w.heap.size ao1 n cap1 p := hown1
      go_wp2_with fail
      go_quiet ((first | (go_at_call 16; exact Calls.quiet_of (quiet_eq (sum_any _ _ _ p _ (by first | exact hown1.row | exact hown1.row.drewN _) (by simp only [maxLen]; omega)))) | (go_at_call 49; exact Calls.quiet_of (unword_any _ _ _ ((bs.drop 4).take (len - 4)) _ (by exact (P4.out.below hb1).drewN _) (by omega) (by simp only [maxLen]; omega)))))
      go_wp2
      go_ret3
      first
        | rw [Fr.unframe_ok (by rw [HL.out]; exact h8) (by rw [← HN.out]; exact h2) (by rw [← HN.out, HL.out]; exact h3) (by rw [← HN.out, ← HP.out, ← HU4.out]; exact H4.out), ← HN.out, ← HP.out]
          exact ⟨ao1, cap1, by rw [show ((8 + n : Nat) : Int) = 8 + (n : Int) from by omega, HPL.out]; rfl, by rw [HPL.out]; exact hown1, below_drewN hb1 _⟩
        | rw [Fr.unframe_sum (by rw [HL.out]; exact h8) (by rw [← HN.out]; exact h2) (by rw [← HN.out, HL.out]; exact h3) (by rw [← HN.out, ← HP.out, ← HU4.out]; exact H4.out)]
          exact ⟨none, 0, rfl, Own8.nil _ _, below_drewN hb1 _⟩

theorem unword_take (bs : List UInt8) (k : Nat) (hk : 4 ≤ k) : Fr.unword (bs.take k) = Fr.unword bs := by
  have hb : ∀ i, i < 4 → Fr.byte (bs.take k) i = Fr.byte bs i := fun i hi => by
    unfold Fr.byte
    rw [List.getD_eq_getElem?_getD, List.getD_eq_getElem?_getD, List.getElem?_take, if_pos (by omega)]
  unfold Fr.unword
  rw [hb 0 (by omega), hb 1 (by omega), hb 2 (by omega), hb 3 (by omega)]

set_option maxHeartbeats 1000000 in
theorem refunframe_short (a : Option Addr) (len cap : Nat) (w : World) (h : len < 8) :
    Calls Try.prog 23 #[.slice a len cap] w (RetBytesCode2 w 0 [] 0 31) := by
  have h' : (len : Int) < 8 := by omega
  go_enter Try.func23, Try.ntmps23
  go_wp2_with fail
  go_ret3
  exact ⟨_, _, rfl, Own8.nil _ _, Below.refl _ _⟩

set_option maxHeartbeats 1000000 in
theorem refunframe_rest (a : Option Addr) (len cap : Nat) (bs : List UInt8) (w : World) (hr : Row8 w a len bs) (hlc : len ≤ cap) (hcm : cap ≤ maxLen) (h8 : ¬ len < 8) :
    Calls Try.prog 23 #[.slice a len cap] w (RetBytesCode2 w (Fr.unframe bs).1.length (Fr.unframe bs).1 (Fr.unframe bs).2.1 (Fr.unframe bs).2.2) := by
  have hlen := hr.1
  obtain ⟨b, off, rfl, _⟩ := hr.2 0 (by omega)
  have hl : len ≤ maxLen := Nat.le_trans hlc hcm
  have hmx : len ≤ 9223372036854775807 := by simpa [maxLen] using hl
  have hmc : cap ≤ 9223372036854775807 := by simpa [maxLen] using hcm
  have HL := Lib.hid hlen
  have HR := Lib.hid hr
  clear hr hlen
  have hn32 := Fr.unword_lt bs
  obtain ⟨n, hnw⟩ : ∃ n, n = Fr.unword bs := ⟨_, rfl⟩
  have HN := Lib.hid hnw
  rw [← hnw] at hn32
  clear hnw
  have HN4 : Hid (Fr.unword (bs.take 4) = n) := (unword_take bs 4 (Nat.le_refl _)).trans HN.out.symm
  by_cases h2 : 4096 < n
  · have h2' : (4096 : Int) < (n : Int) := by omega
    go_enter Try.func23, Try.ntmps23
    go_wp2_with fail
    refine (refunword_any _ 4 cap (bs.take 4) _ (HR.out.cut 0 4 (by omega)) (by omega) (by decide)).mono ?_
    rintro e w' ⟨rfl, q, rfl⟩
    rw [HN4.out]
    go_wp2_with fail
    go_ret3
    rw [Fr.unframe_long (by rw [HL.out]; exact h8) (by rw [← HN.out]; exact h2)]
    exact ⟨_, _, rfl, Own8.nil _ _, below_drewN (Below.refl _ _) q⟩
  by_cases h3 : len < 8 + n
  · have h2' : ¬ (4096 : Int) < (n : Int) := by omega
    have h3' : (len : Int) - 8 < (n : Int) := by omega
    go_enter Try.func23, Try.ntmps23
    go_wp2_with fail
    refine (refunword_any _ 4 cap (bs.take 4) _ (HR.out.cut 0 4 (by omega)) (by omega) (by decide)).mono ?_
    rintro e w' ⟨rfl, q, rfl⟩
    rw [HN4.out]
    go_wp2_with fail
    go_ret3
    rw [Fr.unframe_more (by rw [HL.out]; exact h8) (by rw [← HN.out]; exact h2) (by rw [← HN.out, HL.out]; exact h3)]
    exact ⟨_, _, rfl, Own8.nil _ _, below_drewN (Below.refl _ _) q⟩
  have h2' : ¬ (4096 : Int) < (n : Int) := by omega
  have h3' : ¬ (len : Int) - 8 < (n : Int) := by omega
  have P := Lib.hid (HR.out.cut 8 n (by omega))
  have P0 : Hid (cap = 8 → Row8 w (some ⟨b, off, none⟩) n ((bs.drop 8).take n)) := fun hc => by
    have hn0 : n = 0 := by omega
    subst hn0
    exact ⟨by simp, fun i hi => absurd hi (by omega)⟩
  have P4 := Lib.hid (HR.out.cut 4 4 (by omega))
  have hc4 : ¬ cap = 4 := by omega
  have h4l : (4 : Int) ≤ (len : Int) := by omega
  have hplen : ((bs.drop 8).take n).length = n := P.out.1
  obtain ⟨p, hp⟩ : ∃ p, p = (bs.drop 8).take n := ⟨_, rfl⟩
  rw [← hp] at P P0 hplen
  have HP := Lib.hid hp
  have HPL := Lib.hid hplen
  have hu4 : Fr.unword ((bs.drop 4).take 4) = Fr.unword (bs.drop 4) := by
    exact unword_take _ 4 (Nat.le_refl _)
  have HU4 := Lib.hid hu4
  clear hp hplen hu4
  by_cases h4 : Crc.crc p = Fr.unword ((bs.drop 4).take 4)
  all_goals
    have H4 := Lib.hid h4
    have h4b : (((Crc.crc p : Nat) : Int) != (Fr.unword ((bs.drop 4).take 4) : Int)) = !decide (Crc.crc p = Fr.unword ((bs.drop 4).take 4)) := by
      rw [Bool.eq_iff_iff, bne_iff_ne, Bool.not_eq_true', decide_eq_false_iff_not]
      omega
    first | rw [decide_eq_true h4] at h4b | rw [decide_eq_false h4] at h4b
    simp only [Bool.not_true, Bool.not_false] at h4b
    clear h4
    go_enter Try.func23, Try.ntmps23
    go_wp2_with fail
    refine (refunword_any _ 4 cap (bs.take 4) _ (HR.out.cut 0 4 (by omega)) (by omega) (by decide)).mono ?_
    rintro e w' ⟨rfl, q, rfl⟩
    rw [HN4.out]
    go_wp2_with fail
    all_goals
      refine (join_any w.heap.size none 0 0 [] _ n _ p _ (Own8.nil _ _) (by first | exact P.out | exact P0.out (by assumption)) (fun _ _ _ _ h => by cases h) (by simp) (by omega) n (by omega)).mono ?_
      rintro e w1 ⟨ao1, cap1, rfl, hown1, hg1, _⟩
      have hb1 : Below w.heap.size w w1 := (below_drewN (Below.refl _ _) q).grown hg1 (Nat.le_refl _) (fun k hk => by cases hk)
      replace hown1 : Own8 w1 w.heap.size ao1 n cap1 p := hown1
      go_wp2_with fail
      go_quiet ((first | (go_at_call 17; exact Calls.quiet_of (quiet_eq (refsum_any _ _ _ p _ (by first | exact hown1.row | exact hown1.row.drewN _) (by simp only [maxLen]; omega)))) | (go_at_call 51; exact Calls.quiet_of (refunword_any _ _ _ ((bs.drop 4).take 4) _ (by exact (P4.out.below hb1).drewN _) (by omega) (by simp only [maxLen]; omega)))))
      go_wp2
      go_ret3
      first
        | rw [Fr.unframe_ok (by rw [HL.out]; exact h8) (by rw [← HN.out]; exact h2) (by rw [← HN.out, HL.out]; exact h3) (by rw [← HN.out, ← HP.out, ← HU4.out]; exact H4.out), ← HN.out, ← HP.out]
          exact ⟨ao1, cap1, by rw [show ((8 + n : Nat) : Int) = 8 + (n : Int) from by omega, HPL.out]; rfl, by rw [HPL.out]; exact hown1, below_drewN hb1 _⟩
        | rw [Fr.unframe_sum (by rw [HL.out]; exact h8) (by rw [← HN.out]; exact h2) (by rw [← HN.out, HL.out]; exact h3) (by rw [← HN.out, ← HP.out, ← HU4.out]; exact H4.out)]
          exact ⟨none, 0, rfl, Own8.nil _ _, below_drewN hb1 _⟩

end Go.Proofs.Ytdpajcamgipgkaa
