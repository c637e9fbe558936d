/- sub.Decode of a right submission's bytes: reading keys. -/
import Derived.Test.YtpknmfmpiachkaaGreatMrd
import Derived.Test.YtpknmfmpiachkaaGreatMenc
import Derived.Test.YtpknmfmpiachkaaGreatSer5
import Derived.Deep.CutBlock
namespace Go.Proofs.YtpknmfmpiachkaaGreat
open Go.RowKit
def GoodR (w : World) (R : Nat) (v : Value) (rest : List UInt8) (e : Ending) (w' : World) : Prop := e = .returned v ∧ Rd w' R rest ∧ w.grownBy w' (some R)
theorem num_ok (R : Nat) (n : Int) (hn : -9223372036854775808 ≤ n ∧ n ≤ 9223372036854775807) (rest : List UInt8) (w : World) (hr : Rd w R (numBytes n ++ rest)) :
 Calls Tryz.prog 79 #[.pointer (some ⟨R, 0, none⟩)] w (GoodR w R (.int .i64 n) rest) :=
 (num_any R _ w hr).mono fun _ _ h => h.ok (getNum_num n rest hn)
theorem count_ok (R : Nat) (n : Nat) (most : Int) (h63 : most ≤ 9223372036854775807) (hn : (n : Int) ≤ most) (rest : List UInt8) (w : World) (hr : Rd w R (numBytes (n : Nat) ++ rest)) :
 Calls Tryz.prog 81 #[.pointer (some ⟨R, 0, none⟩), .int .i64 most] w (GoodR w R (.int .i64 (n : Nat)) rest) :=
 (rcount_any R most _ w hr).mono fun _ _ h => h.ok (by unfold getCount; rw [getNum_num _ rest (by omega)]; simp only; rw [if_neg (by omega)])
theorem key_ok (R : Nat) (x : Nat) (hx : x < 18446744073709551616) (hc : Flo.canon x = x) (rest : List UInt8) (w : World) (hr : Rd w R (keyBytes (Flo.code x) ++ rest)) :
 Calls Tryz.prog 82 #[.pointer (some ⟨R, 0, none⟩)] w (GoodR w R (.float .f64 x) rest) :=
 (key_any R _ w hr).mono fun _ _ h => by
  have := h.ok (getKey_key x rest hx)
  rw [hc] at this
  exact this
def keysB (ks : List Nat) : List UInt8 := ks.flatMap fun x => keyBytes (Flo.code x)
theorem keysB_at {ks : List Nat} {k : Nat} {x : Nat} (h : ks[k]? = some x) : keysB (ks.drop k) = keyBytes (Flo.code x) ++ keysB (ks.drop (k + 1)) := by
 rw [drop_at h]
 rfl
theorem Rd.grownOld {w w' : World} {R : Nat} {bs : List UInt8} {row : Option Nat} (h : Rd w R bs) (hg : w.grownBy w' row) (hr : ∀ g, row = some g → R < g) : Rd w' R bs :=
 h.high fun k hk hl => hg.block k hl fun e => by have := hr k e.symm; omega
theorem Rd.lt {w : World} {R : Nat} {bs : List UInt8} (h : Rd w R bs) : R < w.heap.size := by
 obtain ⟨_, _, _, h0, _⟩ := h
 exact lt_of_block h0
def GotKeys (w : World) (R : Nat) (ks : List Nat) (rest : List UInt8) (e : Ending) (w' : World) : Prop :=
 ∃ ao cap, e = .returned (.slice ao ks.length cap) ∧ w'.ownsRow w.heap.size 63 1 (.slice ao ks.length cap) ks.length (cellsF ks) ∧ Rd w' R rest ∧ Touch [R] w w'
set_option maxRecDepth 100000 in
set_option maxHeartbeats 3200000 in
theorem keys_ok (R : Nat) (most : Int) (ks : List Nat) (hk : ∀ x ∈ ks, KeyOk x) (hm : (ks.length : Int) ≤ most ∧ most ≤ 1000000) (rest : List UInt8) (w : World) (hr : Rd w R (numBytes (ks.length : Nat) ++ (keysB ks ++ rest))) :
 Calls Tryz.prog 80 #[.pointer (some ⟨R, 0, none⟩), .int .i64 most] w (GotKeys w R ks rest) := by
 have HC := Lib.hid (count_ok R ks.length most (by omega) hm.1 _ w hr)
 have HK := Lib.hid hk
 have HRL : Hid (R < w.heap.size) := hr.lt
 clear hk hr
 go_enter Tryz.func80, Tryz.ntmps80
 go_wp2_with fail
 refine HC.out.mono ?_
 rintro e w1 ⟨rfl, hrd, hg⟩
 have HR1 := Lib.hid hrd
 have HG1 := Lib.hid (Touch.of_grown (S := [R]) hg (by simp))
 clear hrd hg HC
 go_wp2_with fail
 go_loopg [5, 9] ks.length (fun g s5 s9 wr => ∃ (k : Nat) (ao : Option Addr) (cap : Nat), s9 = .int .i64 k ∧ s5 = .slice ao k cap ∧ k ≤ ks.length ∧ g = ks.length - k ∧ Hid (wr.ownsRow w.heap.size 63 1 (.slice ao k cap) k (cellsF (ks.take k))) ∧ Hid (Rd wr R (keysB (ks.drop k) ++ rest)) ∧ Hid (Touch [R] w wr))
 case atStart => exact ⟨0, none, 0, rfl, rfl, Nat.zero_le _, rfl, World.ownsRow_nil _ _ _ _, HR1.out, HG1.out⟩
 case round =>
  obtain ⟨k, ao, cap, rfl, rfl, hk, rfl, HO, HR, HT⟩ := hrel
  clear HR1 HG1
  have hk0 : (0 : Int) ≤ (k : Int) := by omega
  have hnat : ((k : Int)).toNat = k := by omega
  by_cases hlt : k < ks.length
  · obtain ⟨x, hx⟩ : ∃ x, ks[k]? = some x := ⟨_, List.getElem?_eq_getElem hlt⟩
    have hkx := HK.out x (List.mem_of_getElem? hx)
    have hr := HR.out
    rw [keysB_at hx, List.append_assoc] at hr
    have HC := Lib.hid (key_ok R x hkx.1 hkx.2.2 _ wr hr)
    have htk : cellsF (ks.take (k + 1)) = cellsF (ks.take k) ++ cellsF [x] := by rw [take_snoc hx, cellsF_append]
    have HTK := Lib.hid htk
    clear hx hkx hr htk
    have hkn : (k : Int) < (ks.length : Int) := by omega
    go_wp2_with fail
    refine HC.out.mono ?_
    rintro e w2 ⟨rfl, hrd, hg⟩
    have hO2 : w2.ownsRow w.heap.size 63 1 (.slice ao k cap) k (cellsF (ks.take k)) := own_keep HO.out fun g hgo hl => hg.block g hl fun e => by have := (HO.out.lt g hgo).1; have := Option.some.inj e; have := HRL.out; omega
    have HO2 := Lib.hid hO2
    have HR2 := Lib.hid hrd
    have HT2 := Lib.hid (HT.out.trans (Touch.of_grown (S := [R]) hg (by simp)))
    have hws : w.heap.size ≤ w2.heap.size := HT2.out.size
    clear hrd hg hO2 HC HO HR HT
    go_wp2_with (at_builtin; refine wpList_appendF rfl (.tmp 11) (.tmp 14) rfl w.heap.size ao k cap (cellsF (ks.take k)) rfl (own_keep HO2.out fun g _ hl => alloc_far rfl hl) (some ⟨w2.heap.size, 0, none⟩) 1 1 (cellsF [x]) rfl (RowN.newH _ _ _ 1 1 _ _ rfl rfl rfl) (fun h => by cases h) (cellsF_one _) (by omega) (by simp; omega) (k + 1) rfl ?_; intro ao3 cp3 w4 hown4 hg4 hat4)
    have hR3 : Rd w4 R (keysB (ks.drop (k + 1)) ++ rest) := (HR2.out.below (below_alloc (Below.refl _ _) _)).grownOld hg4 fun g hg => by have := (HO2.out.lt g hg).1; have := HRL.out; omega
    have hT3 : Touch [R] w w4 := (touch_alloc HT2.out _).grown hg4 fun g hg => (HO2.out.lt g hg).1
    go_roundg (ks.length - (k + 1))
    case measure => omega
    case rel => exact ⟨k + 1, ao3, cp3, by go_num, rfl, by omega, rfl, by show World.ownsRow _ _ _ _ _ _ _; rw [HTK.out]; exact hown4, hR3, hT3⟩
  · obtain rfl : k = ks.length := by omega
    have ho := HO.out
    rw [List.take_of_length_le (Nat.le_refl _)] at ho
    have hr := HR.out
    rw [List.drop_of_length_le (Nat.le_refl _)] at hr
    have HFIN : Hid (GotKeys w R ks rest (.returned (.slice ao ks.length cap)) wr) := ⟨ao, cap, rfl, ho, hr, HT.out⟩
    clear ho hr
    go_wp2_with fail
    go_ret
    exact HFIN.out
end Go.Proofs.YtpknmfmpiachkaaGreat
