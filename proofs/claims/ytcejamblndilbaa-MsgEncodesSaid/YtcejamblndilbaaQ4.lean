/- The document's num, flag, bytes; its bytes of a configuration. -/
import Derived.Test.YtcejamblndilbaaEns
import Derived.Test.YtcejamblndilbaaPl2
import Derived.Test.YtcejamblndilbaaConf1
namespace Go.Proofs.Ytcejamblndilbaa
open Go.RowKit

/-- bytes of the call's own, more of them -/
def RetJ (X0 w : World) (row : Option Nat) (bs : List UInt8) (e : Ending) (w' : World) : Prop :=
  ∃ ao n cap, e = .returned (.slice ao n cap) ∧ Own8 w' X0.heap.size ao n cap bs ∧ Below X0.heap.size X0 w' ∧ w.grownBy w' row ∧ (Value.ownBlock (.slice ao n cap) = row ∨ ∃ g, Value.ownBlock (.slice ao n cap) = some g ∧ w.heap.size ≤ g)
theorem RetJ.of {X0 w w' : World} {ao : Option Addr} {n cap : Nat} {xs bs : List UInt8} {N : Nat} {e : Ending} (hb : Below X0.heap.size X0 w) (hown : Own8 w X0.heap.size ao n cap xs) (h : RetJoin w X0.heap.size (Value.ownBlock (.slice ao n cap)) N bs e w') :
    RetJ X0 w (Value.ownBlock (.slice ao n cap)) bs e w' := by
  obtain ⟨ao', cap', he, ho, hg, hat⟩ := h
  exact ⟨ao', N, cap', he, ho, hb.grown hg hb.size (fun g hgg => (hown.block g hgg).1), hg, hat⟩

theorem fresh_apart {w1 w2 : World} {ao : Option Addr} {n cap : Nat} {bs : List UInt8} (h : Own8 w2 w1.heap.size ao n cap bs) {row : Option Nat} (hr : ∀ g, row = some g → g < w1.heap.size) : ∀ b off, ao = some ⟨b, off, none⟩ → 0 < n → row ≠ some b := by
  rintro b off rfl hn e
  obtain ⟨g, h1, h2, _⟩ := h.addr hn
  simp only [Option.some.injEq, Addr.mk.injEq] at h1
  have := hr b e
  omega
theorem below_grown {w w1 w2 : World} {row : Option Nat} (hb : Below w.heap.size w w1) (hg : w1.grownBy w2 row) : w.grownBy w2 row :=
  ⟨hg.os.trans hb.os, hg.tape.trans hb.tape, hg.output.trans hb.output, Nat.le_trans hb.size hg.size, fun k hk hn => (hg.block k (Nat.lt_of_lt_of_le hk hb.size) hn).trans (hb.block k hk)⟩

set_option maxRecDepth 100000 in
set_option maxHeartbeats 3200000 in
theorem num17_any (X0 w : World) (ao : Option Addr) (n cap : Nat) (xs : List UInt8) (x : Int) (hb : Below X0.heap.size X0 w) (hown : Own8 w X0.heap.size ao n cap xs) (hbig : n ≤ 100000000) (hx : (-9223372036854775808 : Int) ≤ x ∧ x ≤ 9223372036854775807) :
    Calls Try.prog 70 #[.slice ao n cap, .int .i64 x] w (RetJ X0 w (Value.ownBlock (.slice ao n cap)) (xs ++ numBytes x)) := by
  have hnum := refNum_any x w hx
  have hl2 := numBytes_len x
  have HN := Lib.hid hnum
  have HO := Lib.hid hown
  have HB := Lib.hid hb
  have HL := Lib.hid hl2
  clear hnum hx hl2 hown hb
  go_enter Try.func70, Try.ntmps70
  go_wp2_with fail
  refine HN.out.mono ?_
  rintro e w1 ⟨a1, c1, rfl, hown1, hb1⟩
  have hsz := HB.out.size
  have hj := join_any X0.heap.size ao n cap xs a1 (numBytes x).length c1 (numBytes x) w1 (HO.out.below hb1 (Nat.le_refl _)) hown1.row (fresh_apart hown1 (fun g hg => (HO.out.block g hg).2)) (by have := hb1.size; omega) (by have := HL.out; omega) _ rfl
  have HJ := Lib.hid hj
  have HB1 := Lib.hid hb1
  clear hj hown1 hb1 hsz
  go_wp2_with fail
  refine HJ.out.mono ?_
  rintro e w2 ⟨a2, c2, rfl, hown2, hg2, hat2⟩
  have hr : RetJ X0 w (Value.ownBlock (.slice ao n cap)) (xs ++ numBytes x) (.returned (.slice a2 (n + (numBytes x).length) c2)) w2 := RetJ.of HB.out HO.out ⟨a2, c2, rfl, hown2, below_grown HB1.out hg2, by
    rcases hat2 with h | ⟨g, h1, h2⟩
    · exact .inl h
    · exact .inr ⟨g, h1, by have := HB1.out.size; omega⟩⟩
  have HR := Lib.hid hr
  clear hr hown2 hg2 hat2
  go_wp2_with fail
  go_ret
  exact HR.out

set_option maxRecDepth 100000 in
set_option maxHeartbeats 3200000 in
theorem flag17_any (X0 w : World) (ao : Option Addr) (n cap : Nat) (xs : List UInt8) (b : Bool) (hb : Below X0.heap.size X0 w) (hown : Own8 w X0.heap.size ao n cap xs) (hbig : n ≤ 100000000) :
    Calls Try.prog 71 #[.slice ao n cap, .bool b] w (RetJ X0 w (Value.ownBlock (.slice ao n cap)) (xs ++ flagB b)) := by
  have HO := Lib.hid hown
  have HB := Lib.hid hb
  have hfin : ∀ (o : Obj) (ao' : Option Addr) (cap' : Nat) (w' : World), Own8 w' X0.heap.size ao' (n + 1) cap' (xs ++ flagB b) → (w.alloc o).grownBy w' (Value.ownBlock (.slice ao n cap)) →
      (Value.ownBlock (.slice ao' (n + 1) cap') = Value.ownBlock (.slice ao n cap) ∨ Value.ownBlock (.slice ao' (n + 1) cap') = some (w.alloc o).heap.size) → RetJ X0 w (Value.ownBlock (.slice ao n cap)) (xs ++ flagB b) (.returned (.slice ao' (n + 1) cap')) w' := by
    intro o ao' cap' w' h1 h2 h3
    refine RetJ.of hb hown ⟨ao', cap', rfl, h1, below_grown (below_alloc (Below.refl _ _) o) h2, ?_⟩
    rcases h3 with h | h
    · exact .inl h
    · exact .inr ⟨_, h, by rw [World.size_alloc]; omega⟩
  have HF := Lib.hid hfin
  have hsz : X0.heap.size ≤ w.heap.size := hb.size
  clear hown hb hfin
  cases b
  · go_enter Try.func71, Try.ntmps71
    go_wp2_with (at_builtin; refine wpList_append8 rfl (.tmp 9) (.tmp 10) rfl X0.heap.size ao n cap xs rfl (HO.out.below (below_alloc (Below.refl w.heap.size w) _) (Nat.le_refl _)) (some ⟨w.heap.size, 0, none⟩) 1 1 [0] rfl (Row8.new w _ _ _ _ 1 rfl rfl) (fun h => by cases h) (by omega) (by rw [World.size_alloc]; omega) (n + 1) rfl ?_; intro ao3 cap3 w3 hown3 hg3 hat3; have HR := Lib.hid (HF.out _ _ _ _ hown3 hg3 hat3); clear hown3 hg3 hat3)
    go_ret
    exact HR.out
  · go_enter Try.func71, Try.ntmps71
    go_wp2_with (at_builtin; refine wpList_append8 rfl (.tmp 6) (.tmp 7) rfl X0.heap.size ao n cap xs rfl (HO.out.below (below_alloc (Below.refl w.heap.size w) _) (Nat.le_refl _)) (some ⟨w.heap.size, 0, none⟩) 1 1 [1] rfl (Row8.new w _ _ _ _ 1 rfl rfl) (fun h => by cases h) (by omega) (by rw [World.size_alloc]; omega) (n + 1) rfl ?_; intro ao3 cap3 w3 hown3 hg3 hat3; have HR := Lib.hid (HF.out _ _ _ _ hown3 hg3 hat3); clear hown3 hg3 hat3)
    go_ret
    exact HR.out

set_option maxRecDepth 100000 in
set_option maxHeartbeats 3200000 in
theorem bytes17_any (X0 w : World) (ao : Option Addr) (n cap : Nat) (xs : List UInt8) (s : Option Addr) (m cs : Nat) (ys : List UInt8) (hb : Below X0.heap.size X0 w) (hown : Own8 w X0.heap.size ao n cap xs) (hbig : n ≤ 100000000)
    (hs : Row8 w s m ys) (hap : ∀ b off, s = some ⟨b, off, none⟩ → 0 < m → b < w.heap.size ∧ Value.ownBlock (.slice ao n cap) ≠ some b) (hm : m ≤ 100000000) :
    Calls Try.prog 72 #[.slice ao n cap, .slice s m cs] w (RetJ X0 w (Value.ownBlock (.slice ao n cap)) (xs ++ lenB ys)) := by
  have hyl : ys.length = m := hs.1
  have hnum := num17_any X0 w ao n cap xs (m : Int) hb hown hbig (by omega)
  have hl2 := numBytes_len (m : Int)
  have HN := Lib.hid hnum
  have HO := Lib.hid hown
  have HB := Lib.hid hb
  have HL := Lib.hid hl2
  have HS := Lib.hid hs
  have HAP := Lib.hid hap
  have HYL := Lib.hid hyl
  clear hnum hl2 hown hb hs hap hyl
  go_enter Try.func72, Try.ntmps72
  go_wp2_with fail
  refine HN.out.mono ?_
  rintro e w1 ⟨a1, n1, c1, rfl, hown1, hb1, hg1, hat1⟩
  have hapart : ∀ b off, s = some ⟨b, off, none⟩ → 0 < m → Value.ownBlock (.slice a1 n1 c1) ≠ some b := by
    intro b off he h0 hw
    obtain ⟨k1, k2⟩ := HAP.out b off he h0
    rcases hat1 with h | ⟨g, h, h3⟩
    · exact k2 (h ▸ hw)
    · rw [h] at hw; injection hw with hw; omega
  have hrow : Row8 w1 s m ys := by
    by_cases h0 : 0 < m
    · exact HS.out.grown hg1 fun b off he => (HAP.out b off he h0).2
    · have : m = 0 := by omega
      subst this
      exact ⟨HYL.out, fun i hi => absurd hi (by omega)⟩
  have hn := hown1.length
  have hxl := HO.out.length
  have hj := join_any X0.heap.size a1 n1 c1 (xs ++ numBytes (m : Int)) s m cs ys w1 hown1 hrow hapart hb1.size (by have := HL.out; rw [List.length_append] at hn; omega) _ rfl
  have HJ := Lib.hid hj
  have HG1 := Lib.hid hg1
  have HAT1 := Lib.hid hat1
  clear hj hown1 hb1 hapart hrow hg1 hat1 hn hxl
  go_wp2_with fail
  refine HJ.out.mono ?_
  rintro e w2 ⟨a2, c2, rfl, hown2, hg2, hat2⟩
  have hr : RetJ X0 w (Value.ownBlock (.slice ao n cap)) (xs ++ lenB ys) (.returned (.slice a2 (n1 + m) c2)) w2 := by
    refine RetJ.of (N := n1 + m) HB.out HO.out ⟨a2, c2, rfl, ?_, ?_, ?_⟩
    · rw [lenB, HYL.out, ← List.append_assoc]; exact hown2
    · refine ⟨hg2.os.trans HG1.out.os, hg2.tape.trans HG1.out.tape, hg2.output.trans HG1.out.output, Nat.le_trans HG1.out.size hg2.size, fun k hk hne => ?_⟩
      refine (hg2.block k (Nat.lt_of_lt_of_le hk HG1.out.size) (fun e => ?_)).trans (HG1.out.block k hk hne)
      rcases HAT1.out with h | ⟨g, h, h3⟩
      · exact hne (e.trans h)
      · rw [h] at e; injection e with e; omega
    · rcases hat2 with h | ⟨g, h, h3⟩
      · rcases HAT1.out with h4 | ⟨g, h4, h5⟩
        · exact .inl (h.trans h4)
        · exact .inr ⟨g, h.trans h4, h5⟩
      · exact .inr ⟨g, h, by have := HG1.out.size; omega⟩
  have HR := Lib.hid hr
  clear hr hown2 hg2 hat2
  go_wp2_with fail
  go_ret
  exact HR.out

/-- where bytes of the call's own stand -/
structure JAt (X0 w : World) (row : Option Nat) (bs : List UInt8) (ao : Option Addr) (n cap : Nat) (w' : World) : Prop where
  own : Own8 w' X0.heap.size ao n cap bs
  below : Below X0.heap.size X0 w'
  grown : w.grownBy w' row
  at_ : Value.ownBlock (.slice ao n cap) = row ∨ ∃ g, Value.ownBlock (.slice ao n cap) = some g ∧ w.heap.size ≤ g
theorem JAt.next {X0 w w1 w2 : World} {row : Option Nat} {bs bs' : List UInt8} {ao : Option Addr} {n cap : Nat} (h : JAt X0 w row bs ao n cap w1) {e : Ending} (h2 : RetJ X0 w1 (Value.ownBlock (.slice ao n cap)) bs' e w2) :
    ∃ ao' n' cap', e = .returned (.slice ao' n' cap') ∧ JAt X0 w row bs' ao' n' cap' w2 := by
  obtain ⟨ao', n', cap', he, ho, hb, hg, hat⟩ := h2
  refine ⟨ao', n', cap', he, ho, hb, ⟨hg.os.trans h.grown.os, hg.tape.trans h.grown.tape, hg.output.trans h.grown.output, Nat.le_trans h.grown.size hg.size, fun k hk hne => ?_⟩, ?_⟩
  · refine (hg.block k (Nat.lt_of_lt_of_le hk h.grown.size) (fun e => ?_)).trans (h.grown.block k hk hne)
    rcases h.at_ with h1 | ⟨g, h1, h3⟩
    · exact hne (e.trans h1)
    · rw [h1] at e; injection e with e; omega
  · rcases hat with h3 | ⟨g, h3, h4⟩
    · rcases h.at_ with h1 | ⟨g, h1, h5⟩
      · exact .inl (h3.trans h1)
      · exact .inr ⟨g, h3.trans h1, h5⟩
    · exact .inr ⟨g, h3, by have := h.grown.size; omega⟩
theorem JAt.start {X0 w : World} {bs : List UInt8} {ao : Option Addr} {n cap : Nat} (ho : Own8 w X0.heap.size ao n cap bs) (hb : Below X0.heap.size X0 w) : JAt X0 w (Value.ownBlock (.slice ao n cap)) bs ao n cap w :=
  ⟨ho, hb, ⟨rfl, rfl, rfl, Nat.le_refl _, fun _ _ _ => rfl⟩, .inl rfl⟩
theorem JAt.nil {X0 w : World} (hb : Below X0.heap.size X0 w) : JAt X0 w none [] none 0 0 w := ⟨Own8.nil _ _, hb, ⟨rfl, rfl, rfl, Nat.le_refl _, fun _ _ _ => rfl⟩, .inl rfl⟩
theorem JAt.ret {X0 w w' : World} {row : Option Nat} {bs : List UInt8} {ao : Option Addr} {n cap : Nat} (h : JAt X0 w row bs ao n cap w') : RetJ X0 w row bs (.returned (.slice ao n cap)) w' := ⟨ao, n, cap, rfl, h.own, h.below, h.grown, h.at_⟩
theorem JAt.len {X0 w w' : World} {row : Option Nat} {bs : List UInt8} {ao : Option Addr} {n cap : Nat} (h : JAt X0 w row bs ao n cap w') : bs.length = n := h.own.length

/-- Join of bytes just made -/
theorem joinNew_any (X0 w w1 : World) (ao : Option Addr) (n cap : Nat) (xs : List UInt8) (a1 : Option Addr) (k c1 : Nat) (bs : List UInt8) (hb : Below X0.heap.size X0 w) (hown : Own8 w X0.heap.size ao n cap xs) (hb1 : Below w.heap.size w w1) (hown1 : Own8 w1 w.heap.size a1 k c1 bs) (hbig : n ≤ 100000000) (hk : k ≤ 100000000) :
    Calls Try.prog 67 #[.slice ao n cap, .slice a1 k c1] w1 (RetJ X0 w (Value.ownBlock (.slice ao n cap)) (xs ++ bs)) := by
  refine (join_any X0.heap.size ao n cap xs a1 k c1 bs w1 (hown.below hb1 (Nat.le_refl _)) hown1.row (fresh_apart hown1 (fun g hg => (hown.block g hg).2)) (by have := hb1.size; have := hb.size; omega) (by omega) _ rfl).mono ?_
  rintro e w2 ⟨a2, c2, rfl, hown2, hg2, hat2⟩
  refine RetJ.of hb hown ⟨a2, c2, rfl, hown2, below_grown hb1 hg2, ?_⟩
  rcases hat2 with h | ⟨g, h1, h2⟩
  · exact .inl h
  · exact .inr ⟨g, h1, by have := hb1.size; omega⟩

theorem flat_snoc {zs : List Int} {k : Nat} {x : Int} (h : zs[k]? = some x) : (zs.take (k + 1)).flatMap numBytes = (zs.take k).flatMap numBytes ++ numBytes x := by
  rw [List.take_add_one, h]; simp
theorem flat_len (zs : List Int) (k : Nat) : ((zs.take k).flatMap numBytes).length ≤ 10 * k := by
  induction k generalizing zs with
  | zero => simp
  | succ k ih =>
    cases zs with
    | nil => simp
    | cons z r =>
      have := ih r
      have h2 := numBytes_len z
      simp only [List.take_succ_cons, List.flatMap_cons, List.length_append]
      omega

set_option maxRecDepth 100000 in
set_option maxHeartbeats 6400000 in
theorem ints15_any (X0 w : World) (ao : Option Addr) (n cap : Nat) (xs : List UInt8) (a : Option Addr) (len cp : Nat) (zs : List Int) (hb : Below X0.heap.size X0 w) (hown : Own8 w X0.heap.size ao n cap xs) (hr : RowN X0 a 1 len (cellsZ zs)) (hbig : n ≤ 10000000) (hl : len ≤ 1000000) (hz : ∀ z ∈ zs, (-9223372036854775808 : Int) ≤ z ∧ z ≤ 9223372036854775807) :
    Calls Try.prog 98 #[.slice ao n cap, .slice a len cp] w (RetJ X0 w (Value.ownBlock (.slice ao n cap)) (xs ++ (numBytes (zs.length : Nat) ++ zs.flatMap numBytes))) := by
  have hzl : zs.length = len := by have := hr.1; rw [cellsZ_len] at this; omega
  have hnum := refNum_any (len : Int) w (by omega)
  have hl2 := numBytes_len (len : Int)
  have hxl := hown.length
  obtain ⟨row, hrow⟩ : ∃ row, row = Value.ownBlock (.slice ao n cap) := ⟨_, rfl⟩
  have hrl : ∀ g, row = some g → g < w.heap.size := fun g hg => (hown.block g (hrow ▸ hg)).2
  rw [← hrow]
  have HROW := Lib.hid hrow
  have HN := Lib.hid hnum
  have HO := Lib.hid hown
  have HB := Lib.hid hb
  have HL := Lib.hid hl2
  have HR := Lib.hid hr
  have HZL := Lib.hid hzl
  have HZ := Lib.hid hz
  have HXL := Lib.hid hxl
  clear hnum hl2 hown hb hr hzl hz hxl hrow hrl
  go_enter Try.func98, Try.ntmps98
  go_wp2_with fail
  refine HN.out.mono ?_
  rintro e w1 ⟨a1, c1, rfl, hown1, hb1⟩
  have hj := joinNew_any X0 w w1 ao n cap xs a1 (numBytes (len : Int)).length c1 (numBytes (len : Int)) HB.out HO.out hb1 hown1 (by omega) (by have := HL.out; omega)
  have HJ := Lib.hid hj
  clear hj hown1 hb1
  go_wp2_with fail
  refine HJ.out.mono ?_
  rintro e w2 hh
  obtain ⟨a2, n2, c2, rfl, hj2⟩ := (JAt.start HO.out HB.out).next hh
  rw [← HROW.out] at hj2
  have HJ2 := Lib.hid hj2
  clear hj2 hh HJ
  go_wp2_with fail
  go_loopw [0, 5] (fun s i wr => ∃ (k : Nat) (ak : Option Addr) (nk ck : Nat), k ≤ len ∧ i = .int .i64 k ∧ s = .slice ak nk ck ∧ Hid (JAt X0 w row (xs ++ (numBytes (len : Int) ++ (zs.take k).flatMap numBytes)) ak nk ck wr)) (fun _ i _ => len - (intOf i).toNat)
  case atStart => exact ⟨0, a2, n2, c2, Nat.zero_le _, rfl, rfl, Lib.hid (by simpa using HJ2.out)⟩
  case round =>
    obtain ⟨k, ak, nk, ck, hk, rfl, rfl, HJK⟩ := hrel
    by_cases hlt : k < len
    · obtain ⟨b1, o1, x, rfl, hxk, hcell⟩ := cellZ_at (HR.out.below HJK.out.below) k hlt
      have hkn : (k : Int) < (len : Int) := by omega
      have hk0 : (0 : Int) ≤ (k : Int) := by omega
      have hnat : ((k : Int)).toNat = k := by omega
      have hnum := refNum_any x wr (HZ.out x (List.mem_of_getElem? hxk))
      have hnk : nk ≤ 100000000 := by
        have h1 := HJK.out.len
        have h2 := flat_len zs k
        have h3 := HL.out
        have h4 := HXL.out
        simp only [List.length_append] at h1
        omega
      have HXK := Lib.hid hxk
      have HNK := Lib.hid hnum
      clear hxk hnum
      go_wp2_with fail
      refine HNK.out.mono ?_
      rintro e w3 ⟨a3, c3, rfl, hown3, hb3⟩
      have hj := joinNew_any X0 wr w3 ak nk ck _ a3 (numBytes x).length c3 (numBytes x) HJK.out.below HJK.out.own hb3 hown3 hnk (by have := numBytes_len x; omega)
      have HJ := Lib.hid hj
      clear hj hown3 hb3 hcell
      go_wp2_with fail
      refine HJ.out.mono ?_
      rintro e w4 hh
      obtain ⟨a4, n4, c4, rfl, hj4⟩ := HJK.out.next hh
      have hj5 : JAt X0 w row (xs ++ (numBytes (len : Int) ++ (zs.take (k + 1)).flatMap numBytes)) a4 n4 c4 w4 := by
        rw [flat_snoc HXK.out]; simpa using hj4
      have HJ5 := Lib.hid hj5
      clear hj5 hj4 hh HJ
      go_wp2_with fail
      go_roundw
      case rel => exact ⟨k + 1, a4, n4, c4, by omega, by go_num, rfl, HJ5.out⟩
      case measure => simp [intOf]; omega
    · have hke : k = len := by omega
      subst hke
      have hf : RetJ X0 w row (xs ++ (numBytes (zs.length : Nat) ++ zs.flatMap numBytes)) (.returned (.slice ak nk ck)) wr := by
        have h1 := HJK.out.ret
        rw [List.take_of_length_le (by rw [HZL.out]; omega)] at h1
        rw [HZL.out]; exact h1
      have HF := Lib.hid hf
      clear hf HJK
      go_wp2_with fail
      go_ret
      exact HF.out

theorem cBytes_bytes {v l : List Int} (h : confRight v l = true) : (cBytes v l).1 = (numBytes (v.length : Nat) ++ v.flatMap numBytes) ++ (numBytes (l.length : Nat) ++ l.flatMap numBytes) := by
  rw [confVals_bytes h, confVals, List.flatMap_append, grp_bytes, grp_bytes]
set_option maxRecDepth 100000 in
set_option maxHeartbeats 6400000 in
theorem bytes15_any (c : Cf) (w : World) (hc : c.ok w) (hr : confRight c.v.zs c.l.zs = true) :
    Calls Try.prog 73 #[.agg #[.slice c.v.a c.v.len c.v.cap, .slice c.l.a c.l.len c.l.cap]] w (fun e w' => ∃ ao n cap, e = .returned (.slice ao n cap) ∧ Own8 w' w.heap.size ao n cap (cBytes c.v.zs c.l.zs).1 ∧ Below w.heap.size w w') := by
  obtain ⟨h1, h2, _⟩ := confRight_facts hr
  obtain ⟨v1, v2⟩ := rising_len h1
  obtain ⟨l1, l2⟩ := rising_len h2
  have e := cBytes_bytes hr
  obtain ⟨cb, hcb⟩ : ∃ cb, cb = (cBytes c.v.zs c.l.zs).1 := ⟨_, rfl⟩
  rw [← hcb] at e ⊢
  obtain ⟨X, hX⟩ : ∃ X, X = w.alloc (.cells #[.slice c.v.a c.v.len c.v.cap, .slice c.l.a c.l.len c.l.cap] 26) := ⟨_, rfl⟩
  have hXb : Below w.heap.size w X := hX ▸ below_alloc (Below.refl _ _) _
  have hA : X.heap[w.heap.size]? = some (.cells #[.slice c.v.a c.v.len c.v.cap, .slice c.l.a c.l.len c.l.cap] 26 (0, 0)) := hX ▸ heap_alloc_new w _
  have hs : X.heap.size = w.heap.size + 1 := by rw [hX, World.size_alloc]
  have hvl : c.v.zs.length = c.v.len := by have := hc.1.1.1; rw [cellsZ_len] at this; omega
  have hll : c.l.zs.length = c.l.len := by have := hc.2.1.1; rw [cellsZ_len] at this; omega
  have hce : ∀ w', Below X.heap.size X w' → (w'.cell? ⟨w.heap.size, 0, none⟩ = some (.slice c.v.a c.v.len c.v.cap) ∧ w'.cell? ⟨w.heap.size, 1, none⟩ = some (.slice c.l.a c.l.len c.l.cap)) := fun w' hb => by
    obtain ⟨x0, x1, _, _⟩ := two_cells ((hb.block w.heap.size (by omega)).trans hA)
    exact ⟨x0, x1⟩
  have hbz := numBytes_len (c.v.zs.length : Nat)
  have hfz := flat_len c.v.zs c.v.zs.length
  rw [List.take_length] at hfz
  have H1 := Lib.hid (fun Z (hZ : Below X.heap.size X Z) => ints15_any X Z none 0 0 [] c.v.a c.v.len c.v.cap c.v.zs hZ (Own8.nil _ _) (hc.1.1.below hXb) (by omega) (by omega) (fun z hz => by have := v2 z hz; omega))
  have H2 := Lib.hid (fun Z (hZ : Below X.heap.size X Z) ao n cap (ho : Own8 Z X.heap.size ao n cap (numBytes (c.v.zs.length : Nat) ++ c.v.zs.flatMap numBytes)) => ints15_any X Z ao n cap _ c.l.a c.l.len c.l.cap c.l.zs hZ ho (hc.2.1.below hXb) (by have := ho.length; rw [List.length_append] at this; omega) (by omega) (fun z hz => by have := l2 z hz; omega))
  have HCE := Lib.hid hce
  have HX := Lib.hid hX
  have HXB := Lib.hid hXb
  have HE := Lib.hid e
  have HS := Lib.hid hs
  clear hce hX hXb hA hs hc hr h1 h2 v1 v2 l1 l2 hbz hfz hvl hll e hcb
  go_enter Try.func73, Try.ntmps73
  go_wp2_with fail
  rw [← HX.out]
  go_region_held3 (fun w' => w'.cell? ⟨w.heap.size, 0, none⟩ = some (.slice c.v.a c.v.len c.v.cap) ∧ w'.cell? ⟨w.heap.size, 1, none⟩ = some (.slice c.l.a c.l.len c.l.cap))
    (first | exact HCE.out _ HY2.out | exact HCE.out _ HY1.out | exact HCE.out _ (Below.refl _ _).drew | go_keep)
    (first
      | (go_at_call 98; refine (H2.out _ HY1.out _ _ _ HO1.out).mono ?_; rintro e y2 ⟨a2, n2, c2, rfl, ho2, hb2, _, _⟩; have HY2 := Lib.hid hb2; have HO2 := Lib.hid ho2; clear ho2 hb2)
      | (go_at_call 98; refine (H1.out _ (Below.refl _ _).drew).mono ?_; rintro e y1 ⟨a1, n1, c1, rfl, ho1, hb1, _, _⟩; have HY1 := Lib.hid hb1; have HO1 := Lib.hid ho1; clear ho1 hb1))
  go_wp2_with fail
  go_ret
  refine ⟨a2, n2, c2, rfl, ?_, below_then HXB.out HY2.out⟩
  rw [HE.out]
  exact HO2.out.more (by rw [HS.out]; omega)
end Go.Proofs.Ytcejamblndilbaa
