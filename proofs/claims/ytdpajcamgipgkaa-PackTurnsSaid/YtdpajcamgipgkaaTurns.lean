/- PackTurns: a frame of which one byte is turned isn't read as a frame of the same length: the walk. -/
import Derived.Test.YtdpajcamgipgkaaBits
import Derived.Test.YtdpajcamgipgkaaFrames
namespace Go.Proofs.Ytdpajcamgipgkaa
open Go.RowKit

theorem len_frame_append (p : List UInt8) : (Fr.frame p).length = 8 + p.length := by rw [Fr.frame_length]; omega

set_option maxRecDepth 100000 in
set_option maxHeartbeats 1600000 in
theorem packTurns_walk (a : Option Addr) (len cap : Nat) (ps : List UInt8) (at_ to_ : Int) (w : World) (hr : Row8 w a len ps) (_hlc : len ≤ cap) (_hcm : cap ≤ maxLen) (hn : a = none → cap = 0)
    (_wa : (Lit.int .i64 at_).wf = true) (wt : (Lit.int .u8 to_).wf = true) :
    Calls Try.prog 7 #[.slice a len cap, .int .i64 at_, .int .u8 to_] w fun e w' => e = .returned (.bool true) ∧ Below w.heap.size w w' := by
  have HR := Lib.hid hr
  clear hr
  by_cases hl : len ≤ 4096
  · obtain ⟨x, rfl⟩ : ∃ x : UInt8, to_ = ((x.toNat : Nat) : Int) := by
      have hb : 0 ≤ to_ ∧ to_ ≤ 255 := by simpa [Lit.wf, IntKind.min, IntKind.max, IntKind.signed, IntKind.bits] using wt
      exact ⟨UInt8.ofNat to_.toNat, by rw [UInt8.toNat_ofNat']; omega⟩
    clear wt
    obtain ⟨k, hk, hk8⟩ := masked at_
    have hplen := HR.out.1
    have hfl : (Fr.frame ps).length = 8 + len := by rw [len_frame_append, hplen]
    have hkl : k % (8 + len) < 8 + len := Nat.mod_lt _ (by omega)
    have hkl' : (k : Int) % (8 + (len : Int)) < 8 + (len : Int) := Int.emod_lt_of_pos _ (by omega)
    have hkl0 : 0 ≤ (k : Int) % (8 + (len : Int)) := Int.emod_nonneg _ (by omega)
    have hcast : (k : Int) % (8 + (len : Int)) = ((k % (8 + len) : Nat) : Int) := by rw [Int.natCast_emod, Int.natCast_add]; rfl
    have htn : ((k : Int) % (8 + (len : Int))).toNat = k % (8 + len) := by rw [hcast]; omega
    have HC := Lib.hid hcast
    clear hcast
    obtain ⟨f, hf⟩ : ∃ f, f = Fr.frame ps := ⟨_, rfl⟩
    rw [← hf] at hfl
    have HF := Lib.hid hf
    have HFL := Lib.hid hfl
    have HPL := Lib.hid hplen
    clear hf hfl hplen
    have hz : (8 + (len : Int) == 0) = false := by simp; omega
    have hne0 : ¬ (8 + (len : Int) = 0) := by omega
    have hpos : 1 ≤ 8 + (len : Int) := by omega
    go_enter Try.func7, Try.ntmps7
    go_wp2_with fail
    refine (framing_any _).mono ?_
    rintro e w1 ⟨rfl, hb1⟩
    have hz1 := hb1.size
    go_wp2_with fail
    refine (frame_yes a len cap ps _ (HR.out.below hb1) hn hl).mono ?_
    rintro e w2 ⟨ao2, cap2, rfl, hown2, hb2⟩
    rw [← HF.out] at hown2
    have hz2 := hb2.size
    have hb2' : Below w.heap.size w w2 := hb1.trans (hb2.mono hz1)
    obtain ⟨g2, rfl, hbg2, hgl2⟩ := hown2.addr (by omega)
    obtain ⟨c, hc, hcb, hcell, hfr⟩ := hown2.at (k % (8 + len)) hkl
    by_cases hcx : c = x.toNat
    · have hcx' : ((c : Int) == ((x.toNat : Nat) : Int)) = true := by simp; omega
      go_wp2
      go_ret
      exact ⟨rfl, hb2'⟩
    have hcx' : ((c : Int) == ((x.toNat : Nat) : Int)) = false := by simp; omega
    obtain ⟨i, hi⟩ : ∃ i, i = k % (8 + len) := ⟨_, rfl⟩
    have hif : i < f.length := by rw [HFL.out, hi]; exact hkl
    have hfx : f[i] ≠ x := fun e => hcx (by
      have e2 := hcb.out
      rw [← hi, List.getD_eq_getElem?_getD, List.getElem?_eq_getElem hif] at e2
      rw [← e2, ← e]
      rfl)
    have hlp : ps.length ≤ 4096 := by rw [HPL.out]; exact hl
    have hturn := Fr.unframe_turned ps i x hlp (by rw [← HF.out]; exact hif) (by simp only [← HF.out]; exact hfx)
    rw [← HF.out] at hturn
    have HT := Lib.hid hturn
    have hset : (f.set i x).length = 8 + len := by rw [List.length_set]; exact HFL.out
    have HI := Lib.hid hi
    clear hturn hi hset hfx hif
    go_wp2_with (at_builtin; refine wpList_append8 rfl (.tmp 37) (.tmp 38) rfl w2.heap.size (some ⟨w2.heap.size, 0, none⟩) 0 0 [] rfl (Own8.fresh _ _ _ _ _ 0 rfl (Nat.le_refl _) (by decide) rfl rfl) (some ⟨g2, 0, none⟩) (8 + len) cap2 f rfl (hown2.row.alloc _) (fun h => by cases h) (by omega) (by simp) (8 + len) (by omega) ?_; intro ao3 cap3 w3 hown3 hg3 hat3; rw [List.nil_append] at hown3; obtain ⟨g3, rfl, hbg3, hgl3⟩ := hown3.addr (by omega); obtain ⟨c3, hc3, hcb3, hcell3, hfr3⟩ := hown3.at (k % (8 + len)) hkl)
    have hb3 : Below w2.heap.size w2 w3 := ((Below.refl _ _).alloc (Nat.le_refl _) _).grown hg3 (by simp) (fun k hk => by simp [Value.ownBlock] at hk; omega)
    have hb3' : Below w.heap.size w w3 := hb2'.trans (hb3.mono (by omega))
    have hst := hown3.store i x
    rw [HI.out] at hst
    have hst' := hst
    rw [← HI.out] at hst'
    have hua := unframe_all (some ⟨g3, 0, none⟩) (8 + len) cap3 _ _ hst'.row hst'.cap.1 hst'.cap.2
    rw [HI.out] at hua
    have hb4 : Below w.heap.size w (w3.setCell ⟨g3, k % (8 + len), none⟩ (.int .u8 ((x.toNat : Nat) : Int))) := hb3'.setCell (by show w.heap.size ≤ g3; omega) _
    have hz3 := hb3.size
    have hz4 : w.heap.size ≤ (w3.setCell ⟨g3, k % (8 + len), none⟩ (.int .u8 ((x.toNat : Nat) : Int))).heap.size := hb4.size
    by_cases h4 : 4 ≤ k % (8 + len)
    · have h4' : (4 : Int) ≤ (k : Int) % (8 + (len : Int)) := by rw [HC.out]; omega
      rw [HI.out] at HT
      rw [HT.out.1 h4] at hua
      refine hua.mono ?_
      rintro e w5 ⟨ao5, cap5, rfl, hown5, hb5⟩
      go_wp2
      go_ret
      exact ⟨rfl, hb4.trans (hb5.mono hz4)⟩
    · have h4' : ¬ (4 : Int) ≤ (k : Int) % (8 + (len : Int)) := by rw [HC.out]; omega
      rw [HI.out] at HT
      have ht := HT.out.2 (by omega)
      rw [HFL.out] at ht
      generalize Fr.unframe (f.set (k % (8 + len)) x) = u at hua ht
      obtain ⟨up, un, ud⟩ := u
      simp only at hua ht
      by_cases hd : ud = 0
      · subst hd
        have hlt : (un : Int) < 8 + (len : Int) := by omega
        refine hua.mono ?_
        rintro e w5 ⟨ao5, cap5, rfl, hown5, hb5⟩
        go_wp2
        go_ret
        exact ⟨rfl, hb4.trans (hb5.mono hz4)⟩
      · have hd' : ((ud : Int) != 0) = true := by simp; omega
        refine hua.mono ?_
        rintro e w5 ⟨ao5, cap5, rfl, hown5, hb5⟩
        go_wp2
        go_ret
        exact ⟨rfl, hb4.trans (hb5.mono hz4)⟩
  · have h' : (4096 : Int) < (len : Int) := by omega
    go_enter Try.func7, Try.ntmps7
    go_wp2_with fail
    refine (framing_any _).mono ?_
    rintro e w1 ⟨rfl, hb1⟩
    have hz1 := hb1.size
    go_wp2_with fail
    refine (frame_no a len cap _ hl).mono ?_
    rintro e w2 ⟨ao2, cap2, rfl, hown2, hb2⟩
    go_wp2
    go_ret
    exact ⟨rfl, hb1.trans (hb2.mono hz1)⟩

end Go.Proofs.Ytdpajcamgipgkaa
