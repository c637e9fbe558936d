/- Frame and Unframe, the code's and the document's: both are the plain ones. -/
import Derived.Test.YtdpajcamgipgkaaJoin
import Derived.Test.YtdpajcamgipgkaaSum
namespace Go.Proofs.Ytdpajcamgipgkaa
open Go.RowKit

set_option maxHeartbeats 1000000 in
theorem frame_yes (a : Option Addr) (len cap : Nat) (bs : List UInt8) (w : World) (hr : Row8 w a len bs) (hn : a = none → cap = 0) (h : len ≤ 4096) :
    Calls Try.prog 19 #[.slice a len cap] w (RetBytesCode w (8 + len) (Fr.frame bs) 0) := by
  have HR := Lib.hid hr
  clear hr
  have hl : len ≤ maxLen := by simp only [maxLen]; omega
  go_enter Try.func19, Try.ntmps19
  go_wp2_with fail
  refine (word_any len _ (by omega)).mono ?_
  rintro e w1 ⟨ao1, cap1, rfl, hown1, hb1⟩
  have hz1 := hb1.size
  go_wp2_with fail
  refine (sum_any a len cap bs _ (HR.out.below hb1) hl).mono ?_
  rintro e w1' ⟨rfl, rfl⟩
  go_wp2_with fail
  refine (word_any (Crc.crc bs) _ (Crc.crc_lt _)).mono ?_
  rintro e w2 ⟨ao2, cap2, rfl, hown2, hb2⟩
  have hz2 := hb2.size
  have hb12 : Below w.heap.size w w2 := hb1.trans (hb2.mono hz1)
  go_wp2_with (first
    | (at_builtin; refine wpList_append8 rfl (.tmp 11) (.tmp 14) rfl w.heap.size ao1 4 cap1 _ rfl (hown1.below hb2 (Nat.le_refl _)) ao2 4 cap2 _ rfl hown2.row hown2.nocap (by omega) (by omega) 8 rfl ?_; intro ao3 cap3 w3 hown3 hg3 hat3; have hb3 : Below w.heap.size w w3 := Own8.grown (hown1.below hb2 (Nat.le_refl _)) hb12 hg3 (Nat.le_refl _) (by omega); have hz3 := hb3.size)
    | (at_builtin; refine wpList_append8 rfl (.tmp 16) (.tmp 17) rfl w.heap.size ao3 8 cap3 _ rfl hown3 a len cap bs rfl (HR.out.below hb3) hn (by omega) (by omega) (8 + len) rfl ?_; intro ao4 cap4 w4 hown4 hg4 hat4; have hb4 : Below w.heap.size w w4 := Own8.grown hown3 hb3 hg4 (Nat.le_refl _) hz3))
  go_ret2
  refine ⟨ao4, cap4, rfl, ?_, hb4⟩
  have hfr : Fr.frame bs = Fr.word len ++ Fr.word (Crc.crc bs) ++ bs := by
    unfold Fr.frame
    rw [HR.out.1, List.append_assoc]
  rw [hfr]
  exact hown4

set_option maxHeartbeats 1000000 in
theorem frame_no (a : Option Addr) (len cap : Nat) (w : World) (h : ¬ len ≤ 4096) :
    Calls Try.prog 19 #[.slice a len cap] w (RetBytesCode w 0 [] 2) := by
  have h' : (4096 : Int) < (len : Int) := by omega
  go_enter Try.func19, Try.ntmps19
  go_wp2_with fail
  go_ret2
  exact ⟨_, _, rfl, Own8.nil _ _, Below.refl _ _⟩

set_option maxHeartbeats 1000000 in
theorem refframe_yes (a : Option Addr) (len cap : Nat) (bs : List UInt8) (w : World) (hr : Row8 w a len bs) (h : len ≤ 4096) :
    Calls Try.prog 20 #[.slice a len cap] w (RetBytesCode w (8 + len) (Fr.frame bs) 0) := by
  have HR := Lib.hid hr
  clear hr
  have hl : len ≤ maxLen := by simp only [maxLen]; omega
  go_enter Try.func20, Try.ntmps20
  go_wp2_with fail
  refine (refword_any len _ (by omega)).mono ?_
  rintro e w1 ⟨ao1, cap1, rfl, hown1, hb1⟩
  have hz1 := hb1.size
  go_wp2_with fail
  refine (refsum_any a len cap bs _ (HR.out.below hb1) hl).mono ?_
  rintro e w1' ⟨rfl, rfl⟩
  go_wp2_with fail
  refine (refword_any (Crc.crc bs) _ (Crc.crc_lt _)).mono ?_
  rintro e w2 ⟨ao2, cap2, rfl, hown2, hb2⟩
  have hz2 := hb2.size
  have hb12 : Below w.heap.size w w2 := hb1.trans (hb2.mono hz1)
  have hown1' := hown1.below hb2 (Nat.le_refl _)
  have hd : ∀ b off, ao2 = some ⟨b, off, none⟩ → 0 < 4 → Value.ownBlock (.slice ao1 4 cap1) ≠ some b := by
    rintro b off rfl _ he
    have h1 := hown1.block b he
    have h2 := hown2.block b rfl
    omega
  go_wp2_with fail
  refine (join_any w.heap.size ao1 4 cap1 _ ao2 4 cap2 _ _ hown1' hown2.row hd (by omega) (by omega) 8 rfl).mono ?_
  rintro e w3 ⟨ao3, cap3, rfl, hown3, hg3, _⟩
  have hb3 : Below w.heap.size w w3 := Own8.grown hown1' hb12 hg3 (Nat.le_refl _) (by omega)
  have hz3 := hb3.size
  have hd3 : ∀ b off, a = some ⟨b, off, none⟩ → 0 < len → Value.ownBlock (.slice ao3 8 cap3) ≠ some b := by
    rintro b off rfl hl0 he
    have h1 := hown3.block b he
    obtain ⟨b', off', hh, hc⟩ := HR.out.2 0 hl0
    simp only [Option.some.injEq, Addr.mk.injEq, and_true] at hh
    obtain ⟨rfl, rfl⟩ := hh
    have := World.block_lt_of_cell? w _ hc
    have h2 : b < w.heap.size := this
    omega
  go_wp2_with fail
  refine (join_any w.heap.size ao3 8 cap3 _ a len cap _ _ hown3 (HR.out.below hb3) hd3 (by omega) (by omega) (8 + len) rfl).mono ?_
  rintro e w4 ⟨ao4, cap4, rfl, hown4, hg4, _⟩
  have hb4 : Below w.heap.size w w4 := Own8.grown hown3 hb3 hg4 (Nat.le_refl _) (by omega)
  go_wp2
  go_ret2
  refine ⟨ao4, cap4, rfl, ?_, hb4⟩
  have hfr : Fr.frame bs = Fr.word len ++ Fr.word (Crc.crc bs) ++ bs := by
    unfold Fr.frame
    rw [HR.out.1, List.append_assoc]
  rw [hfr]
  exact hown4

set_option maxHeartbeats 1000000 in
theorem refframe_no (a : Option Addr) (len cap : Nat) (w : World) (h : ¬ len ≤ 4096) :
    Calls Try.prog 20 #[.slice a len cap] w (RetBytesCode w 0 [] 2) := by
  have h' : (4096 : Int) < (len : Int) := by omega
  go_enter Try.func20, Try.ntmps20
  go_wp2_with fail
  go_ret2
  exact ⟨_, _, rfl, Own8.nil _ _, Below.refl _ _⟩

end Go.Proofs.Ytdpajcamgipgkaa
