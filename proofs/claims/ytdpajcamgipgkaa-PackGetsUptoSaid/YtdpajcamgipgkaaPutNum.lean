/- A number behind bytes: the code's appendNum and the document's Num. -/
import Derived.Test.YtdpajcamgipgkaaPutMath
import Derived.Test.YtdpajcamgipgkaaJoin
namespace Go.Proofs.Ytdpajcamgipgkaa
open Go.RowKit

theorem grown_atStep {w w1 : World} {base : Nat} {ao : Option Addr} {n cap : Nat} {row : Option Nat} {v : Value} (hat : v.ownBlock = Value.ownBlock (.slice ao n cap) ∨ v.ownBlock = some w1.heap.size)
    (hr : Value.ownBlock (.slice ao n cap) = row ∨ ∃ g, Value.ownBlock (.slice ao n cap) = some g ∧ w.heap.size ≤ g) (hz : w.heap.size ≤ w1.heap.size) : v.ownBlock = row ∨ ∃ g, v.ownBlock = some g ∧ w.heap.size ≤ g := by
  have _ := base
  rcases hat with h | h
  · rcases hr with h2 | h2
    · exact .inl (h.trans h2)
    · exact .inr (by rw [h]; exact h2)
  · exact .inr ⟨_, h, hz⟩

theorem cells_u8 (x : Int) (c : UInt8) (h : x = (c.toNat : Nat)) : (#[Value.int .u8 x] : Array Value).toList.take 1 = cells8 [c] := by
  rw [h]; rfl

theorem zig_bits (x : Int) (h : -9223372036854775808 ≤ x ∧ x ≤ 9223372036854775807) : bits .xor .u64 (IntKind.u64.wrap (IntKind.u64.wrap x * 2)) (IntKind.u64.wrap (x / 9223372036854775808)) = ((zig x : Nat) : Int) := by
  unfold zig
  by_cases h0 : x < 0
  · rw [if_pos h0]
    have e1 : IntKind.u64.wrap (IntKind.u64.wrap x * 2) = (((x * 2 + 18446744073709551616).toNat : Nat) : Int) := by rw [IntKind.wrap_u64, IntKind.wrap_u64]; omega
    have e2 : x / 9223372036854775808 = -1 := by omega
    rw [e1, e2]
    show IntKind.u64.wrap ((BitVec.ofInt 64 (((x * 2 + 18446744073709551616).toNat : Nat) : Int) ^^^ BitVec.ofInt 64 (IntKind.u64.wrap (-1))).toNat : Int) = _
    rw [show BitVec.ofInt 64 (IntKind.u64.wrap (-1)) = BitVec.allOnes 64 from by decide, BitVec.xor_allOnes, BitVec.toNat_not, BitVec.ofInt_natCast, BitVec.toNat_ofNat, Nat.mod_eq_of_lt (by omega), IntKind.wrap_u64]
    omega
  · rw [if_neg h0]
    have e1 : IntKind.u64.wrap (IntKind.u64.wrap x * 2) = ((x.toNat * 2 : Nat) : Int) := by rw [IntKind.wrap_u64, IntKind.wrap_u64]; omega
    have e2 : x / 9223372036854775808 = 0 := by omega
    rw [e1, e2]
    show IntKind.u64.wrap ((BitVec.ofInt 64 ((x.toNat * 2 : Nat) : Int) ^^^ BitVec.ofInt 64 (IntKind.u64.wrap 0)).toNat : Int) = _
    rw [show BitVec.ofInt 64 (IntKind.u64.wrap 0) = 0#64 from by decide, BitVec.xor_zero, BitVec.ofInt_natCast, BitVec.toNat_ofNat, Nat.mod_eq_of_lt (by omega), IntKind.wrap_u64]
    omega

theorem lebF_last (f u : Nat) (h : u < 128) : lebF (f + 1) u = [UInt8.ofNat u] := by rw [lebF, if_pos h]
theorem lebF_more (f u : Nat) (h : ¬ u < 128) : lebF (f + 1) u = UInt8.ofNat (u % 128 + 128) :: lebF f (u / 128) := by rw [lebF, if_neg h]

set_option maxRecDepth 100000 in
set_option maxHeartbeats 1600000 in
theorem appendNum_any (base : Nat) (ao : Option Addr) (n cap : Nat) (xs : List UInt8) (x : Int) (w : World) (hown : Own8 w base ao n cap xs) (hbase : base ≤ w.heap.size) (hbig : n ≤ 100000000000000)
    (hx : (-9223372036854775808 : Int) ≤ x ∧ x ≤ 9223372036854775807) :
    Calls Try.prog 55 #[.slice ao n cap, .int .i64 x] w (RetJoin w base (Value.ownBlock (.slice ao n cap)) (n + (numBytes x).length) (xs ++ numBytes x)) := by
  have HX := Lib.hid hx
  have HO := Lib.hid hown
  clear hown hx
  obtain ⟨row, hrw⟩ : ∃ row, row = Value.ownBlock (.slice ao n cap) := ⟨_, rfl⟩
  rw [← hrw]
  have HW := Lib.hid hrw
  clear hrw
  go_enter Try.func55, Try.ntmps55
  go_wp2
  rw [zig_bits x HX.out]
  go_loopw [0, 5] (fun v u wr => ∃ (f un : Nat) (pre : List UInt8) (nk : Nat) (ak : Option Addr) (ck : Nat), un < 2 ^ (7 * (f + 1)) ∧ un < 18446744073709551616 ∧ Hid (numBytes x = pre ++ lebF (f + 1) un) ∧ Hid (nk = n + pre.length) ∧ nk ≤ n + 10 ∧ u = .int .u64 un ∧ v = .slice ak nk ck ∧ Own8 wr base ak nk ck (xs ++ pre) ∧ w.grownBy wr row ∧ (Value.ownBlock (.slice ak nk ck) = row ∨ ∃ g, Value.ownBlock (.slice ak nk ck) = some g ∧ w.heap.size ≤ g)) (fun _ u _ => (intOf u).toNat)
  case atStart =>
    have hz := zig_lt x HX.out
    exact ⟨9, zig x, [], n, ao, cap, by omega, by omega, rfl, rfl, by omega, rfl, rfl, by simpa using HO.out, World.grownBy.refl _ _, .inl HW.out.symm⟩
  case round =>
    obtain ⟨f, un, pre, nk, ak, ck, hf, hun, HP, HN, hnk, rfl, rfl, hok, hg, hrk⟩ := hrel
    have HRK := Lib.hid hrk
    have HG := Lib.hid hg
    have HOK := Lib.hid hok
    have HF := Lib.hid hf
    have hsz := hg.size
    clear hrk hg hok hf
    by_cases hlt : un < 128
    · have hu128 : (un : Int) < 128 := by omega
      have hc : (un : Int) = ((UInt8.ofNat un).toNat : Nat) := by rw [UInt8.toNat_ofNat']; omega
      have HC := Lib.hid hc
      clear hc
      go_wp2_with (at_builtin; refine wpList_append8 rfl (.tmp 23) (.tmp 26) rfl base ak nk ck (xs ++ pre) rfl (HOK.out.below (B := wr.heap.size) ((Below.refl _ _).alloc (Nat.le_refl _) _) (Nat.le_refl _)) (some ⟨wr.heap.size, 0, none⟩) 1 1 [UInt8.ofNat un] rfl (Row8.new _ _ _ _ [UInt8.ofNat un] 1 rfl (cells_u8 _ _ HC.out)) (fun h => by cases h) (by omega) (by simp; omega) (nk + 1) rfl ?_; intro ao' cap' w1 hown1 hg1 hat1)
      go_ret
      have hN : nk + 1 = n + (numBytes x).length := by have := HN.out; rw [HP.out, lebF_last _ _ hlt, List.length_append]; simp; omega
      rw [← hN, HP.out, lebF_last _ _ hlt, ← List.append_assoc]
      exact ⟨ao', cap', rfl, hown1, grown_step (grown_step HG.out (World.grownBy_alloc _ _ _) (.inl rfl)) hg1 HRK.out, grown_atStep (base := base) hat1 HRK.out (by rw [World.size_alloc]; omega)⟩
    · have hu128 : (128 : Int) ≤ (un : Int) := by omega
      have hc : bits .or .u8 ((un : Int) % 256) 128 = ((UInt8.ofNat (un % 128 + 128)).toNat : Nat) := by
        have h1 := or128 (un % 256) (by omega)
        rw [show (un : Int) % 256 = ((un % 256 : Nat) : Int) from by omega, h1, UInt8.toNat_ofNat']
        omega
      have HC := Lib.hid hc
      clear hc
      go_wp2_with (at_builtin; refine wpList_append8 rfl (.tmp 17) (.tmp 21) rfl base ak nk ck (xs ++ pre) rfl (HOK.out.below (B := wr.heap.size) ((Below.refl _ _).alloc (Nat.le_refl _) _) (Nat.le_refl _)) (some ⟨wr.heap.size, 0, none⟩) 1 1 [UInt8.ofNat (un % 128 + 128)] rfl (Row8.new _ _ _ _ [UInt8.ofNat (un % 128 + 128)] 1 rfl (cells_u8 _ _ HC.out)) (fun h => by cases h) (by omega) (by simp; omega) (nk + 1) rfl ?_; intro ao' cap' w1 hown1 hg1 hat1)
      have hl10 : nk + 1 ≤ n + 10 := by
        have h1 := numBytes_len x
        have h2 := HN.out
        rw [HP.out, lebF_more _ _ hlt, List.length_append, List.length_cons] at h1
        omega
      have hf0 : f ≠ 0 := by
        rintro rfl
        have := HF.out
        omega
      obtain ⟨f', rfl⟩ : ∃ f', f = f' + 1 := ⟨f - 1, by omega⟩
      go_roundw
      case rel =>
        refine ⟨f', un / 128, pre ++ [UInt8.ofNat (un % 128 + 128)], nk + 1, ao', cap', ?_, by omega, ?_, ?_, hl10, by go_num, rfl, ?_, grown_step (grown_step HG.out (World.grownBy_alloc _ _ _) (.inl rfl)) hg1 HRK.out, grown_atStep (base := base) hat1 HRK.out (by rw [World.size_alloc]; omega)⟩
        · have h1 := HF.out
          rw [show 7 * (f' + 1 + 1) = 7 * (f' + 1) + 7 from by omega, Nat.pow_add] at h1
          exact Nat.div_lt_of_lt_mul (by rw [Nat.mul_comm]; exact h1)
        · show _ = _
          rw [HP.out, lebF_more _ _ hlt, List.append_assoc]
          rfl
        · show _ = _
          have := HN.out
          rw [List.length_append]
          simp
          omega
        · rw [← List.append_assoc]
          exact hown1
      case measure => simp [intOf]; omega

theorem zig_no (x : Int) (h : 0 ≤ x) (_h : -9223372036854775808 ≤ x ∧ x ≤ 9223372036854775807) : IntKind.u64.wrap (IntKind.u64.wrap x * 2) = ((zig x : Nat) : Int) := by
  unfold zig
  rw [if_neg (by omega), IntKind.wrap_u64, IntKind.wrap_u64]
  omega
theorem zig_yes (x : Int) (h : x < 0) (_h : -9223372036854775808 ≤ x ∧ x ≤ 9223372036854775807) : IntKind.u64.wrap (IntKind.u64.wrap (IntKind.u64.wrap (wrap64 (-(wrap64 (x + 1)))) * 2) + 1) = ((zig x : Nat) : Int) := by
  unfold zig
  rw [if_pos h, IntKind.wrap_u64, IntKind.wrap_u64, IntKind.wrap_u64, wrap64, wrap64]
  omega

set_option maxRecDepth 100000 in
set_option maxHeartbeats 1600000 in
theorem refNum_any (x : Int) (w : World) (hx : (-9223372036854775808 : Int) ≤ x ∧ x ≤ 9223372036854775807) :
    Calls Try.prog 57 #[.int .i64 x] w (RetBytes w (numBytes x).length (numBytes x)) := by
  have HX := Lib.hid hx
  clear hx
  by_cases h0 : x < 0
  · go_enter Try.func57, Try.ntmps57
    go_wp2
    rw [zig_yes x h0 HX.out]
    go_loopw [3, 4] (fun u v wr => ∃ (f un : Nat) (pre : List UInt8) (nk : Nat) (ak : Option Addr) (ck : Nat), un < 2 ^ (7 * (f + 1)) ∧ un < 18446744073709551616 ∧ Hid (numBytes x = pre ++ lebF (f + 1) un) ∧ Hid (nk = pre.length) ∧ nk ≤ 10 ∧ u = .int .u64 un ∧ v = .slice ak nk ck ∧ Own8 wr w.heap.size ak nk ck pre ∧ Below w.heap.size w wr) (fun u _ _ => (intOf u).toNat)
    case atStart =>
      have hz := zig_lt x HX.out
      exact ⟨9, zig x, [], 0, _, 0, by omega, by omega, rfl, rfl, by omega, rfl, rfl, Own8.made w _ _ [] 0 (Nat.le_refl _) (by decide) rfl rfl, (Below.refl _ _).alloc (Nat.le_refl _) _⟩
    case round =>
      obtain ⟨f, un, pre, nk, ak, ck, hf, hun, HP, HN, hnk, rfl, rfl, hok, hg⟩ := hrel
      have HG := Lib.hid hg
      have HOK := Lib.hid hok
      have HF := Lib.hid hf
      have hsz := hg.size
      clear hg hok hf
      by_cases hlt : un < 128
      · have hu128 : ¬ (127 : Int) < (un : Int) := by omega
        have hc : (un : Int) = ((UInt8.ofNat un).toNat : Nat) := by rw [UInt8.toNat_ofNat']; omega
        have HC := Lib.hid hc
        clear hc
        go_wp2_with (at_builtin; refine wpList_append8 rfl (.tmp 28) (.tmp 31) rfl w.heap.size ak nk ck pre rfl (HOK.out.below (B := wr.heap.size) ((Below.refl _ _).alloc (Nat.le_refl _) _) (Nat.le_refl _)) (some ⟨wr.heap.size, 0, none⟩) 1 1 [UInt8.ofNat un] rfl (Row8.new _ _ _ _ [UInt8.ofNat un] 1 rfl (cells_u8 _ _ HC.out)) (fun h => by cases h) (by omega) (by simp; omega) (nk + 1) rfl ?_; intro ao' cap' w1 hown1 hg1 hat1)
        go_ret
        have hN : nk + 1 = (numBytes x).length := by have := HN.out; rw [HP.out, lebF_last _ _ hlt, List.length_append]; simp; omega
        rw [← hN, HP.out, lebF_last _ _ hlt]
        exact ⟨ao', cap', rfl, hown1, (HG.out.alloc hsz _).grown hg1 (by rw [World.size_alloc]; omega) (fun k hk => (HOK.out.block k hk).1)⟩
      · have hu128 : (127 : Int) < (un : Int) := by omega
        have hc : (un : Int) % 128 + 128 = ((UInt8.ofNat (un % 128 + 128)).toNat : Nat) := by
          rw [UInt8.toNat_ofNat']
          omega
        have HC := Lib.hid hc
        clear hc
        go_wp2_with (at_builtin; refine wpList_append8 rfl (.tmp 19) (.tmp 24) rfl w.heap.size ak nk ck pre rfl (HOK.out.below (B := wr.heap.size) ((Below.refl _ _).alloc (Nat.le_refl _) _) (Nat.le_refl _)) (some ⟨wr.heap.size, 0, none⟩) 1 1 [UInt8.ofNat (un % 128 + 128)] rfl (Row8.new _ _ _ _ [UInt8.ofNat (un % 128 + 128)] 1 rfl (cells_u8 _ _ HC.out)) (fun h => by cases h) (by omega) (by simp; omega) (nk + 1) rfl ?_; intro ao' cap' w1 hown1 hg1 hat1)
        have hl10 : nk + 1 ≤ 10 := by
          have h1 := numBytes_len x
          have h2 := HN.out
          rw [HP.out, lebF_more _ _ hlt, List.length_append, List.length_cons] at h1
          omega
        have hf0 : f ≠ 0 := by
          rintro rfl
          have := HF.out
          omega
        obtain ⟨f', rfl⟩ : ∃ f', f = f' + 1 := ⟨f - 1, by omega⟩
        go_roundw
        case rel =>
          refine ⟨f', un / 128, pre ++ [UInt8.ofNat (un % 128 + 128)], nk + 1, ao', cap', ?_, by omega, ?_, ?_, hl10, by go_num, rfl, hown1, (HG.out.alloc hsz _).grown hg1 (by rw [World.size_alloc]; omega) (fun k hk => (HOK.out.block k hk).1)⟩
          · have h1 := HF.out
            rw [show 7 * (f' + 1 + 1) = 7 * (f' + 1) + 7 from by omega, Nat.pow_add] at h1
            exact Nat.div_lt_of_lt_mul (by rw [Nat.mul_comm]; exact h1)
          · show _ = _
            rw [HP.out, lebF_more _ _ hlt, List.append_assoc]
            rfl
          · show _ = _
            have := HN.out
            rw [List.length_append]
            simp
            omega
        case measure => simp [intOf]; omega
  · go_enter Try.func57, Try.ntmps57
    go_wp2
    rw [zig_no x (by omega) HX.out]
    go_loopw [3, 4] (fun u v wr => ∃ (f un : Nat) (pre : List UInt8) (nk : Nat) (ak : Option Addr) (ck : Nat), un < 2 ^ (7 * (f + 1)) ∧ un < 18446744073709551616 ∧ Hid (numBytes x = pre ++ lebF (f + 1) un) ∧ Hid (nk = pre.length) ∧ nk ≤ 10 ∧ u = .int .u64 un ∧ v = .slice ak nk ck ∧ Own8 wr w.heap.size ak nk ck pre ∧ Below w.heap.size w wr) (fun u _ _ => (intOf u).toNat)
    case atStart =>
      have hz := zig_lt x HX.out
      exact ⟨9, zig x, [], 0, _, 0, by omega, by omega, rfl, rfl, by omega, rfl, rfl, Own8.made w _ _ [] 0 (Nat.le_refl _) (by decide) rfl rfl, (Below.refl _ _).alloc (Nat.le_refl _) _⟩
    case round =>
      obtain ⟨f, un, pre, nk, ak, ck, hf, hun, HP, HN, hnk, rfl, rfl, hok, hg⟩ := hrel
      have HG := Lib.hid hg
      have HOK := Lib.hid hok
      have HF := Lib.hid hf
      have hsz := hg.size
      clear hg hok hf
      by_cases hlt : un < 128
      · have hu128 : ¬ (127 : Int) < (un : Int) := by omega
        have hc : (un : Int) = ((UInt8.ofNat un).toNat : Nat) := by rw [UInt8.toNat_ofNat']; omega
        have HC := Lib.hid hc
        clear hc
        go_wp2_with (at_builtin; refine wpList_append8 rfl (.tmp 28) (.tmp 31) rfl w.heap.size ak nk ck pre rfl (HOK.out.below (B := wr.heap.size) ((Below.refl _ _).alloc (Nat.le_refl _) _) (Nat.le_refl _)) (some ⟨wr.heap.size, 0, none⟩) 1 1 [UInt8.ofNat un] rfl (Row8.new _ _ _ _ [UInt8.ofNat un] 1 rfl (cells_u8 _ _ HC.out)) (fun h => by cases h) (by omega) (by simp; omega) (nk + 1) rfl ?_; intro ao' cap' w1 hown1 hg1 hat1)
        go_ret
        have hN : nk + 1 = (numBytes x).length := by have := HN.out; rw [HP.out, lebF_last _ _ hlt, List.length_append]; simp; omega
        rw [← hN, HP.out, lebF_last _ _ hlt]
        exact ⟨ao', cap', rfl, hown1, (HG.out.alloc hsz _).grown hg1 (by rw [World.size_alloc]; omega) (fun k hk => (HOK.out.block k hk).1)⟩
      · have hu128 : (127 : Int) < (un : Int) := by omega
        have hc : (un : Int) % 128 + 128 = ((UInt8.ofNat (un % 128 + 128)).toNat : Nat) := by
          rw [UInt8.toNat_ofNat']
          omega
        have HC := Lib.hid hc
        clear hc
        go_wp2_with (at_builtin; refine wpList_append8 rfl (.tmp 19) (.tmp 24) rfl w.heap.size ak nk ck pre rfl (HOK.out.below (B := wr.heap.size) ((Below.refl _ _).alloc (Nat.le_refl _) _) (Nat.le_refl _)) (some ⟨wr.heap.size, 0, none⟩) 1 1 [UInt8.ofNat (un % 128 + 128)] rfl (Row8.new _ _ _ _ [UInt8.ofNat (un % 128 + 128)] 1 rfl (cells_u8 _ _ HC.out)) (fun h => by cases h) (by omega) (by simp; omega) (nk + 1) rfl ?_; intro ao' cap' w1 hown1 hg1 hat1)
        have hl10 : nk + 1 ≤ 10 := by
          have h1 := numBytes_len x
          have h2 := HN.out
          rw [HP.out, lebF_more _ _ hlt, List.length_append, List.length_cons] at h1
          omega
        have hf0 : f ≠ 0 := by
          rintro rfl
          have := HF.out
          omega
        obtain ⟨f', rfl⟩ : ∃ f', f = f' + 1 := ⟨f - 1, by omega⟩
        go_roundw
        case rel =>
          refine ⟨f', un / 128, pre ++ [UInt8.ofNat (un % 128 + 128)], nk + 1, ao', cap', ?_, by omega, ?_, ?_, hl10, by go_num, rfl, hown1, (HG.out.alloc hsz _).grown hg1 (by rw [World.size_alloc]; omega) (fun k hk => (HOK.out.block k hk).1)⟩
          · have h1 := HF.out
            rw [show 7 * (f' + 1 + 1) = 7 * (f' + 1) + 7 from by omega, Nat.pow_add] at h1
            exact Nat.div_lt_of_lt_mul (by rw [Nat.mul_comm]; exact h1)
          · show _ = _
            rw [HP.out, lebF_more _ _ hlt, List.append_assoc]
            rfl
          · show _ = _
            have := HN.out
            rw [List.length_append]
            simp
            omega
        case measure => simp [intOf]; omega
end Go.Proofs.Ytdpajcamgipgkaa
