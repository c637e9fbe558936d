/- Values as bytes: the document's Put. -/
import Derived.Test.YtdpajcamgipgkaaPut
namespace Go.Proofs.Ytdpajcamgipgkaa
open Go.RowKit

/-- Bytes that a call has made behind the world w's blocks do not lie in an older row. -/
theorem fresh_apart {w1 w2 : World} {ao : Option Addr} {n cap : Nat} {bs : List UInt8} (h : Own8 w2 w1.heap.size ao n cap bs) {row : Option Nat} (hr : ∀ g, row = some g → g < w1.heap.size) : ∀ b off, ao = some ⟨b, off, none⟩ → 0 < n → row ≠ some b := by
  rintro b off rfl hn e
  obtain ⟨g, h1, h2, _⟩ := h.addr hn
  simp only [Option.some.injEq, Addr.mk.injEq] at h1
  have := hr b e
  omega
theorem old_apart {w : World} {ao : Option Addr} {n : Nat} {bs : List UInt8} (h : Row8 w ao n bs) {row : Option Nat} (hr : ∀ g, row = some g → w.heap.size ≤ g) : ∀ b off, ao = some ⟨b, off, none⟩ → 0 < n → row ≠ some b := by
  rintro b off rfl hn e
  obtain ⟨b', off', h1, h2⟩ := h.2 0 hn
  simp only [Option.some.injEq, Addr.mk.injEq] at h1
  have h3 := World.block_lt_of_cell? w _ h2
  have := hr b e
  simp only at h3
  omega

set_option maxRecDepth 100000 in
set_option maxHeartbeats 3200000 in
theorem refPut_any (a : Option Addr) (len cap : Nat) (vs : List Vl) (w : World) (hr : RowN w a 5 len (vs.flatMap Vl.cells)) (hs : vs.length = len) (hok : ∀ v ∈ vs, Vl.ok w v) (hbulk : bulkV vs ≤ 4294967296) :
    Calls Try.prog 34 #[.slice a len cap] w (RetBytesCode w (putAll vs []).1.length (putAll vs []).1 (putAll vs []).2) := by
  have hlb := bulkV_len vs
  have hstf := store_float
  have hlen : len ≤ 4294967296 := by omega
  have HB := Lib.hid hbulk
  have HR := Lib.hid hr
  have HK := Lib.hid hok
  have HS := Lib.hid hs
  clear hr hok hs hbulk hlb
  go_enter Try.func34, Try.ntmps34
  go_wp2_with fail
  go_loopw [4, 5] (fun v i wr => ∃ (k : Nat) (acc : List UInt8) (nk : Nat) (ak : Option Addr) (ck : Nat), k ≤ len ∧ Hid (putAll (vs.drop k) acc = putAll vs []) ∧ Hid (acc.length + 10 * bulkV (vs.drop k) ≤ 10 * bulkV vs) ∧ i = .int .i64 k ∧ v = .slice ak nk ck ∧ Own8 wr w.heap.size ak nk ck acc ∧ Below w.heap.size w wr) (fun _ i _ => len - (intOf i).toNat)
  case atStart => exact ⟨0, [], 0, _, 0, by omega, rfl, by show _ ≤ _; simp, rfl, rfl, Own8.made w _ _ [] 0 (Nat.le_refl _) (by decide) rfl rfl, (Below.refl _ _).alloc (Nat.le_refl _) _⟩
  case round =>
    obtain ⟨k, acc, nk, ak, ck, hk, HP, HL, rfl, rfl, hoa, hbw⟩ := hrel
    have hsz := hbw.size
    by_cases hlt : k < len
    · obtain ⟨v, hv⟩ : ∃ v, vs[k]? = some v := ⟨_, List.getElem?_eq_getElem (by rw [HS.out]; exact hlt)⟩
      have hmem : v ∈ vs := List.mem_of_getElem? hv
      obtain ⟨b, off, rfl, hc0, hc1, hc2, hc3, hc4⟩ := vals_at (HR.out.below hbw) HS.out k hlt v hv
      have hdr : vs.drop k = v :: vs.drop (k + 1) := by rw [List.drop_eq_getElem?_toList_append, hv]; rfl
      have HD := Lib.hid hdr
      have HV := Lib.hid (HK.out v hmem)
      clear hmem hdr hv
      obtain ⟨kind, n, x, s, on⟩ := v
      have HBW := Lib.hid hbw
      have HOA := Lib.hid hoa
      clear hbw hoa
      simp only [Sl.val] at hc0 hc1 hc2 hc3 hc4
      have hkl : (k : Int) < (len : Int) := by omega
      have hbl : ∀ g, Value.ownBlock (.slice ak nk ck) = some g → w.heap.size ≤ g ∧ g < wr.heap.size := HOA.out.block
      have HBL := Lib.hid hbl
      clear hbl
      have hl1 : nk + 10 * (s.len + 1) ≤ 10 * 4294967296 := by
        have h1 := HL.out
        have h2 := HB.out
        have h3 := HOA.out.length
        rw [HD.out, bulkV_cons] at h1
        simp only at h1
        omega
      have hobx : ∀ o, Own8 (wr.alloc o) w.heap.size ak nk ck acc := fun o => HOA.out.below ((Below.refl _ _).alloc (Nat.le_refl _) o) (Nat.le_refl _)
      have HOX := Lib.hid hobx
      have hobx2 : ∀ o o2, Own8 ((wr.alloc o).alloc o2) w.heap.size ak nk ck acc := fun o o2 => (hobx o).below ((Below.refl _ _).alloc (Nat.le_refl _) o2) (Nat.le_refl _)
      have HOX2 := Lib.hid hobx2
      have hbx : ∀ o, Below w.heap.size w (wr.alloc o) := fun o => HBW.out.alloc hsz o
      have HBX := Lib.hid hbx
      have hlx : ∀ o g, Value.ownBlock (.slice ak nk ck) = some g → g < (wr.alloc o).heap.size := fun o g hg => by have := (HBL.out g hg).2; rw [World.size_alloc]; omega
      have HLX := Lib.hid hlx
      clear hobx hobx2 hbx hlx
      have hna := HOA.out.length
      by_cases k1 : kind = 1
      · subst k1
        have HERR : Hid (Vl.err ⟨1, n, x, s, on⟩ = 0) := rfl
        go_wp2_with fail
        refine (refNum_any n _ HV.out.2.2.1).mono ?_
        rintro e w1 ⟨a1, c1, rfl, hown1, hb1⟩
        have hz1 := hb1.size
        have hl2 := numBytes_len n
        go_wp2_with fail
        refine (join_any w.heap.size ak nk ck acc a1 (numBytes n).length c1 (numBytes n) _ ((HOX.out _).below hb1 (Nat.le_refl _)) hown1.row (fresh_apart hown1 (HLX.out _)) (by rw [World.size_alloc] at hz1; omega) (by omega) _ rfl).mono ?_
        rintro e w2 ⟨ao2, cap2, rfl, hown2, hg2, hat2⟩
        go_wp2_with fail
        go_roundw
        case rel =>
          obtain ⟨r1, r2⟩ := put_next HD.out HERR.out HV.out.1.1.1 HP.out HL.out
          exact ⟨k + 1, _, _, _, _, by omega, r1, r2, by go_num, rfl, hown2, ((HBX.out _).trans (hb1.mono (by rw [World.size_alloc]; omega))).grown hg2 (by rw [World.size_alloc] at hz1; omega) (fun g hg => (HBL.out g hg).1)⟩
        case measure => simp [intOf]; omega
      by_cases k2 : kind = 2
      · subst k2
        have HERR : Hid (Vl.err ⟨2, n, x, s, on⟩ = 0) := rfl
        go_wp2_with fail
        refine (refKey_any x _ HV.out.2.1).mono ?_
        rintro e w1 ⟨a1, c1, rfl, hown1, hb1⟩
        have hz1 := hb1.size
        go_wp2_with fail
        refine (join_any w.heap.size ak nk ck acc a1 8 c1 (keyBytes (Flo.code x)) _ ((HOX.out _).below hb1 (Nat.le_refl _)) hown1.row (fresh_apart hown1 (HLX.out _)) (by rw [World.size_alloc] at hz1; omega) (by omega) _ rfl).mono ?_
        rintro e w2 ⟨ao2, cap2, rfl, hown2, hg2, hat2⟩
        go_wp2_with fail
        go_roundw
        case rel =>
          obtain ⟨r1, r2⟩ := put_next HD.out HERR.out HV.out.1.1.1 HP.out HL.out
          exact ⟨k + 1, _, _, _, _, by omega, r1, r2, by go_num, rfl, hown2, ((HBX.out _).trans (hb1.mono (by rw [World.size_alloc]; omega))).grown hg2 (by rw [World.size_alloc] at hz1; omega) (fun g hg => (HBL.out g hg).1)⟩
        case measure => simp [intOf]; omega
      by_cases k3 : kind = 3
      · subst k3
        by_cases h4 : s.len ≤ 4096
        · have h4' : ¬ (4096 : Int) < (s.len : Int) := by omega
          have HERR : Hid (Vl.err ⟨3, n, x, s, on⟩ = 0) := by
            show _ = _
            simp [Vl.err, h4]
          go_wp2_with fail
          refine (refNum_any (s.len : Int) _ (by omega)).mono ?_
          rintro e w1 ⟨a1, c1, rfl, hown1, hb1⟩
          have hz1 := hb1.size
          have hl2 := numBytes_len (s.len : Int)
          go_wp2_with fail
          refine (join_any w.heap.size ak nk ck acc a1 (numBytes (s.len : Int)).length c1 (numBytes (s.len : Int)) _ ((HOX.out _).below hb1 (Nat.le_refl _)) hown1.row (fresh_apart hown1 (HLX.out _)) (by rw [World.size_alloc] at hz1; omega) (by omega) _ rfl).mono ?_
          rintro e w2 ⟨ao2, cap2, rfl, hown2, hg2, hat2⟩
          have hcb := held_box (w2 := w1) (row := none) ⟨hb1.os, hb1.tape, hb1.output, hb1.size, fun j hj _ => hb1.block j hj⟩ (fun g hg => by cases hg) (box_cell _ _ _ 3 _ rfl)
          have hcb2 := held_far hg2 (H := wr.heap.size) (fun g hg => by have := (HBL.out g hg).2; omega) hcb
          have hbw2 := ((HBX.out _).trans (hb1.mono (by rw [World.size_alloc]; omega))).grown hg2 (by rw [World.size_alloc] at hz1; omega) (fun g hg => (HBL.out g hg).1)
          have hz2 := hg2.size
          have hzw2 := hbw2.size
          have HBW2 := Lib.hid hbw2
          clear hcb hbw2
          go_wp2_with fail
          refine (join_any w.heap.size ao2 (nk + (numBytes (s.len : Int)).length) cap2 (acc ++ numBytes (s.len : Int)) s.a s.len s.cap s.bs _ hown2 (HV.out.1.1.below HBW2.out) (old_apart HV.out.1.1 (fun g hg => (hown2.block g hg).1)) hzw2 (by omega) _ rfl).mono ?_
          rintro e w3 ⟨ao3, cap3, rfl, hown3, hg3, hat3⟩
          go_wp2_with fail
          go_roundw
          case rel =>
            obtain ⟨r1, r2⟩ := put_next HD.out HERR.out HV.out.1.1.1 HP.out HL.out
            exact ⟨k + 1, _, _, _, _, by omega, r1, r2, by go_num, rfl, by rw [List.append_assoc] at hown3; exact hown3, HBW2.out.grown hg3 hzw2 (fun g hg => (hown2.block g hg).1)⟩
          case measure => simp [intOf]; omega
        · have h4' : (4096 : Int) < (s.len : Int) := by omega
          go_wp2_with fail
          go_ret2
          rw [put_stop HD.out (c := 2) (by simp [Vl.err, h4]) (by decide) HP.out]
          exact ⟨none, 0, rfl, Own8.nil _ _, HBX.out _⟩
      by_cases k4 : kind = 4
      · subst k4
        have HERR : Hid (Vl.err ⟨4, n, x, s, on⟩ = 0) := rfl
        cases on with
        | true =>
          go_wp2_with (at_builtin; refine wpList_append8 rfl (.tmp 54) (.tmp 55) rfl w.heap.size ak nk ck acc rfl (HOX2.out _ _) (some ⟨wr.heap.size + 1, 0, none⟩) 1 1 [1] rfl (Row8.new2 _ _ _ _ _ [1] 1 _ rfl rfl rfl) (fun h => by cases h) (by omega) (by simp; omega) (nk + 1) rfl ?_; intro ao' cap' w1 hown1 hg1 hat1)
          go_roundw
          case rel =>
            obtain ⟨r1, r2⟩ := put_next HD.out HERR.out HV.out.1.1.1 HP.out HL.out
            exact ⟨k + 1, _, _, _, _, by omega, r1, r2, by go_num, rfl, hown1, ((HBX.out _).alloc (by rw [World.size_alloc]; omega) _).grown hg1 (by rw [World.size_alloc, World.size_alloc]; omega) (fun g hg => (HBL.out g hg).1)⟩
          case measure => simp [intOf]; omega
        | false =>
          go_wp2_with (at_builtin; refine wpList_append8 rfl (.tmp 57) (.tmp 58) rfl w.heap.size ak nk ck acc rfl (HOX2.out _ _) (some ⟨wr.heap.size + 1, 0, none⟩) 1 1 [0] rfl (Row8.new2 _ _ _ _ _ [0] 1 _ rfl rfl rfl) (fun h => by cases h) (by omega) (by simp; omega) (nk + 1) rfl ?_; intro ao' cap' w1 hown1 hg1 hat1)
          go_roundw
          case rel =>
            obtain ⟨r1, r2⟩ := put_next HD.out HERR.out HV.out.1.1.1 HP.out HL.out
            exact ⟨k + 1, _, _, _, _, by omega, r1, r2, by go_num, rfl, hown1, ((HBX.out _).alloc (by rw [World.size_alloc]; omega) _).grown hg1 (by rw [World.size_alloc, World.size_alloc]; omega) (fun g hg => (HBL.out g hg).1)⟩
          case measure => simp [intOf]; omega
      · have hne1 : kind ≠ 1 := k1
        go_wp2_with fail
        go_ret2
        rw [put_stop HD.out (c := 1) (by simp [Vl.err, k1, k2, k3, k4]) (by decide) HP.out]
        exact ⟨none, 0, rfl, Own8.nil _ _, HBX.out _⟩
    · have hke : k = len := by omega
      subst hke
      have hd0 : vs.drop k = [] := List.drop_of_length_le (by rw [HS.out]; exact Nat.le_refl _)
      have hp := HP.out
      rw [hd0, putAll] at hp
      have HP2 := Lib.hid hp
      clear hp hd0
      have hna := hoa.length
      have HOA := Lib.hid hoa
      clear hoa
      go_wp2_with fail
      go_ret2
      rw [← HP2.out]
      subst hna
      exact ⟨ak, ck, rfl, HOA.out, hbw⟩
end Go.Proofs.Ytdpajcamgipgkaa
