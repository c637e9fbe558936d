/- PackFrames: every payload has the frame, and all bytes begin with one or not, as the document says: the walk. -/
import Derived.Test.YtdpajcamgipgkaaFraming
namespace Go.Proofs.Ytdpajcamgipgkaa
open Go.RowKit

theorem framed_len (p : List UInt8) : (Fr.framed p).1.length ≤ 4104 := by
  unfold Fr.framed
  split
  · rw [Fr.frame_length]; omega
  · exact Nat.zero_le _
theorem unframe_len (b : List UInt8) : (Fr.unframe b).1.length ≤ 4096 := by
  unfold Fr.unframe
  split
  · exact Nat.zero_le _
  split
  · exact Nat.zero_le _
  split
  · exact Nat.zero_le _
  split
  · simp only [List.length_take]; omega
  · exact Nat.zero_le _

set_option maxRecDepth 100000 in
set_option maxHeartbeats 1000000 in
theorem packFrames_walk (a : Option Addr) (len cap : Nat) (ps : List UInt8) (b : Option Addr) (len' cap' : Nat) (bs : List UInt8) (w : World) (hr : Row8 w a len ps) (_hlc : len ≤ cap) (_hcm : cap ≤ maxLen) (hn : a = none → cap = 0)
    (hr' : Row8 w b len' bs) (hlc' : len' ≤ cap') (hcm' : cap' ≤ maxLen) (_hn' : b = none → cap' = 0) :
    Calls Try.prog 5 #[.slice a len cap, .slice b len' cap'] w fun e w' => e = .returned (.bool true) ∧ Below w.heap.size w w' := by
  have HR := Lib.hid hr
  have HR' := Lib.hid hr'
  clear hr hr'
  have hfl := framed_len ps
  have hul := unframe_len bs
  obtain ⟨f, hf⟩ : ∃ f, f = (Fr.framed ps).1 := ⟨_, rfl⟩
  obtain ⟨n, hfn⟩ : ∃ n, n = f.length := ⟨_, rfl⟩
  obtain ⟨c, hc⟩ : ∃ c, c = (Fr.framed ps).2 := ⟨_, rfl⟩
  obtain ⟨p, hp⟩ : ∃ p, p = (Fr.unframe bs).1 := ⟨_, rfl⟩
  obtain ⟨m, hpm⟩ : ∃ m, m = p.length := ⟨_, rfl⟩
  obtain ⟨k, hk⟩ : ∃ k, k = (Fr.unframe bs).2.1 := ⟨_, rfl⟩
  obtain ⟨d, hd⟩ : ∃ d, d = (Fr.unframe bs).2.2 := ⟨_, rfl⟩
  have C1 := fun w hx => frame_all a len cap ps w hx hn
  have C2 := fun w hx => refframe_all a len cap ps w hx
  have C3 := fun w hx => unframe_all b len' cap' bs w hx hlc' hcm'
  have C4 := fun w hx => refunframe_all b len' cap' bs w hx hlc' hcm'
  rw [← hf] at hfl
  rw [← hfn] at hfl
  rw [← hp] at hul
  rw [← hpm] at hul
  rw [← hf, ← hc, ← hfn] at C1 C2
  rw [← hp, ← hk, ← hd, ← hpm] at C3 C4
  have D1 := Lib.hid C1
  have D2 := Lib.hid C2
  have D3 := Lib.hid C3
  have D4 := Lib.hid C4
  clear C1 C2 C3 C4 hf hfn hc hp hpm hk hd
  have hcc : ((c : Int) != (c : Int)) = false := by simp
  have hdd : ((d : Int) == (d : Int)) = true := by simp
  have hkk : ((k : Int) == (k : Int)) = true := by simp
  go_enter Try.func5, Try.ntmps5
  go_wp2_with fail
  refine (framing_any _).mono ?_
  rintro e w1 ⟨rfl, hb1⟩
  go_wp2_with fail
  refine (D1.out _ (HR.out.below hb1)).mono ?_
  rintro e w2 ⟨ao2, cap2, rfl, hown2, hb2⟩
  have hz1 := hb1.size
  have hz2 := hb2.size
  have hb2' : Below w.heap.size w w2 := hb1.trans (hb2.mono hz1)
  go_wp2_with fail
  refine (D2.out _ (HR.out.below hb2')).mono ?_
  rintro e w3 ⟨ao3, cap3, rfl, hown3, hb3⟩
  have hz3 := hb3.size
  have hb3' : Below w.heap.size w w3 := hb2'.trans (hb3.mono (by omega))
  have hown2' := hown2.below hb3 (Nat.le_refl _)
  go_wp2_with fail
  refine (same_any ao2 ao3 n n cap2 cap3 f f _ hown2'.row hown3.row (by simp only [maxLen]; omega) (by simp only [maxLen]; omega)).mono ?_
  rintro e w3' ⟨rfl, q, rfl⟩
  rw [decide_eq_true (rfl : f = f)]
  go_wp2_with fail
  refine (D3.out _ ((HR'.out.below hb3').drewN q)).mono ?_
  rintro e w4 ⟨ao4, cap4, rfl, hown4, hb4⟩
  have hz4 := hb4.size
  replace hz4 : w3.heap.size ≤ w4.heap.size := hz4
  have hb4' : Below w.heap.size w w4 := (below_drewN hb3' q).trans (hb4.mono (by show w.heap.size ≤ w3.heap.size; omega))
  go_wp2_with fail
  refine (D4.out _ (HR'.out.below hb4')).mono ?_
  rintro e w5 ⟨ao5, cap5, rfl, hown5, hb5⟩
  have hz5 := hb5.size
  have hb5' : Below w.heap.size w w5 := hb4'.trans (hb5.mono (by omega))
  have hown4' := hown4.below hb5 (Nat.le_refl _)
  go_wp2_with fail
  refine (same_any ao4 ao5 m m cap4 cap5 p p _ hown4'.row hown5.row (by simp only [maxLen]; omega) (by simp only [maxLen]; omega)).mono ?_
  rintro e w3' ⟨rfl, q', rfl⟩
  rw [decide_eq_true (rfl : p = p)]
  go_wp2
  go_ret
  exact ⟨rfl, below_drewN hb5' _⟩

end Go.Proofs.Ytdpajcamgipgkaa
