/- The document's Key: a code's eight bytes. -/
import Derived.Test.YtdpajcamgipgkaaPutNum
namespace Go.Proofs.Ytdpajcamgipgkaa
open Go.RowKit

theorem key_len (u : Nat) : (keyBytes u).length = 8 := by simp [keyBytes]
theorem key_at (u k : Nat) (h : k < 8) : (keyBytes u)[k]'(by rw [key_len]; exact h) = UInt8.ofNat (u / 2 ^ (56 - 8 * k) % 256) := by
  simp [keyBytes, List.getElem_map]
theorem key_take (u k : Nat) (h : k < 8) : (keyBytes u).take (k + 1) = (keyBytes u).take k ++ [UInt8.ofNat (u / 2 ^ (56 - 8 * k) % 256)] := by
  rw [List.take_succ_eq_append_getElem (by rw [key_len]; exact h), key_at u k h]
theorem key_shift (u k c : Nat) (hk : k < 8) (_hu : u < 18446744073709551616) (hc : c = u * 2 ^ (8 * k) % 18446744073709551616) : c / 72057594037927936 = u / 2 ^ (56 - 8 * k) % 256 ∧ c * 256 % 18446744073709551616 = u * 2 ^ (8 * (k + 1)) % 18446744073709551616 := by
  have h : k = 0 ∨ k = 1 ∨ k = 2 ∨ k = 3 ∨ k = 4 ∨ k = 5 ∨ k = 6 ∨ k = 7 := by omega
  rcases h with rfl | rfl | rfl | rfl | rfl | rfl | rfl | rfl <;> (simp only [Nat.reduceMul, Nat.reduceSub, Nat.reducePow, Nat.reduceAdd] at hc ⊢; omega)

set_option maxRecDepth 100000 in
set_option maxHeartbeats 1600000 in
theorem refKey_any (x : Nat) (w : World) (hx : x < 18446744073709551616) :
    Calls Try.prog 58 #[.float .f64 x] w (RetBytes w 8 (keyBytes (Flo.code x))) := by
  have hcl : Flo.code x < 18446744073709551616 := by
    rcases Flo.code_lt x with h | h
    · exact h
    · omega
  obtain ⟨u, hu⟩ : ∃ u, u = Flo.code x := ⟨_, rfl⟩
  rw [← hu] at hcl ⊢
  have HU := Lib.hid hu
  clear hu
  go_enter Try.func58, Try.ntmps58
  go_wp2_with fail
  refine (refcode_any x _ hx).mono ?_
  rintro e w1 ⟨rfl, rfl⟩
  rw [← HU.out]
  go_wp2
  go_loopw [3, 4, 5] (fun c v i wr => ∃ (k cn : Nat) (ak : Option Addr) (ck : Nat), k ≤ 8 ∧ cn < 18446744073709551616 ∧ Hid (cn = u * 2 ^ (8 * k) % 18446744073709551616) ∧ c = .int .u64 cn ∧ v = .slice ak k ck ∧ i = .int .i64 k ∧ Own8 wr w.heap.size ak k ck ((keyBytes u).take k) ∧ Below w.heap.size w wr) (fun _ _ i _ => 8 - (intOf i).toNat)
  case atStart =>
    exact ⟨0, u, _, 0, by omega, hcl, by show _ = _; simp; omega, rfl, rfl, rfl, Own8.made w _ _ [] 0 (Nat.le_refl _) (by decide) rfl rfl, (Below.refl _ _).alloc (Nat.le_refl _) _⟩
  case round =>
    obtain ⟨k, cn, ak, ck, hk, hcn, HC, rfl, rfl, rfl, hok, hg⟩ := hrel
    have HG := Lib.hid hg
    have HOK := Lib.hid hok
    have hsz := hg.size
    clear hg hok
    by_cases hlt : k < 8
    · obtain ⟨e1, e2⟩ := key_shift u k cn hlt hcl HC.out
      have hc : (cn : Int) / 72057594037927936 = ((UInt8.ofNat (u / 2 ^ (56 - 8 * k) % 256)).toNat : Nat) := by
        rw [UInt8.toNat_ofNat', ← e1]
        omega
      have HB := Lib.hid hc
      have HC2 := Lib.hid e2
      obtain ⟨y, hy⟩ : ∃ y, y = UInt8.ofNat (u / 2 ^ (56 - 8 * k) % 256) := ⟨_, rfl⟩
      rw [← hy] at HB
      have HY := Lib.hid hy
      clear hc e1 e2 hy
      have hk8 : (k : Int) < 8 := by omega
      go_wp2_with (at_builtin; refine wpList_append8 rfl (.tmp 13) (.tmp 17) rfl w.heap.size ak k ck ((keyBytes u).take k) rfl (HOK.out.below (B := wr.heap.size) ((Below.refl _ _).alloc (Nat.le_refl _) _) (Nat.le_refl _)) (some ⟨wr.heap.size, 0, none⟩) 1 1 [y] rfl (Row8.new _ _ _ _ [y] 1 rfl (cells_u8 _ _ HB.out)) (fun h => by cases h) (by omega) (by simp; omega) (k + 1) rfl ?_; intro ao' cap' w1 hown1 hg1 hat1)
      go_roundw
      case rel =>
        refine ⟨k + 1, cn * 256 % 18446744073709551616, ao', cap', by omega, by omega, HC2, by go_num, rfl, by go_num, ?_, (HG.out.alloc hsz _).grown hg1 (by rw [World.size_alloc]; omega) (fun j hj => (HOK.out.block j hj).1)⟩
        rw [key_take u k hlt, ← HY.out]
        exact hown1
      case measure => simp [intOf]; omega
    · have hke : k = 8 := by omega
      subst hke
      go_wp2
      go_ret
      have h8 := HOK.out
      rw [List.take_of_length_le (by rw [key_len]; omega)] at h8
      exact ⟨ak, ck, rfl, h8, HG.out⟩
end Go.Proofs.Ytdpajcamgipgkaa
