/- A table of keys: where it lies; a key's place and number; made new. -/
import Derived.Test.YtpknmfmpiachkaaGreatInsV
namespace Go.Proofs.YtpknmfmpiachkaaGreat
open Go.RowKit
def VT (w : World) (base N : Nat) (most : Nat) (ae : Option Addr) (n cap : Nat) (L : List VI) : Prop :=
 w.heap[N]? = some (.cells #[.int .i64 (most : Nat), .slice ae n cap] 110 (0, 0)) ∧ L.length = n ∧ w.ownsRow base 179 2 (.slice ae n cap) n (L.flatMap VI.cells) ∧ N < base ∧ base ≤ w.heap.size ∧ n ≤ most ∧ most ≤ 64 ∧ ∀ v ∈ L, v.key < 18446744073709551616
theorem VT.f0 {w base N most ae n cap L} (h : VT w base N most ae n cap L) : w.cell? ⟨N, 0, none⟩ = some (.int .i64 (most : Nat)) := by simp [World.cell?, h.1]
theorem VT.f1 {w base N most ae n cap L} (h : VT w base N most ae n cap L) : w.cell? ⟨N, 1, none⟩ = some (.slice ae n cap) := by simp [World.cell?, h.1]
theorem VT.below {w base N most ae n cap L w'} (h : VT w base N most ae n cap L) (hb : Below w.heap.size w w') : VT w' base N most ae n cap L := by
 obtain ⟨h1, h2, h3, h4, h5, h6⟩ := h
 refine ⟨(hb.block N (lt_of_block h1)).trans h1, h2, own_below h3 hb (Nat.le_refl _), h4, Nat.le_trans h5 hb.size, h6⟩
set_option maxHeartbeats 800000 in
theorem place_any (base N most : Nat) (ae : Option Addr) (n cap : Nat) (L : List VI) (key : Nat) (hkey : key < 18446744073709551616) (p : Nat) (hp : Turns (fun v : VI => Flo.cmp v.key key) L p) (w : World) (hT : VT w base N most ae n cap L) :
 Calls Tryz.prog 104 #[.pointer (some ⟨N, 0, none⟩), .float .f64 key] w (RetBox w (.tuple #[.int .i64 (p : Nat), .bool (foundAt (fun v : VI => Flo.cmp v.key key) L p)])) := by
 have h1 := hT.f1
 have hs := vsearch_any key hkey L hT.2.2.2.2.2.2.2 p hp ae n cap w (RowN.of_own hT.2.2.1) hT.2.1 (by have := hT.2.2.2.2.2.1; have := hT.2.2.2.2.2.2.1; omega)
 obtain ⟨F, hF⟩ : ∃ F, F = foundAt (fun v : VI => Flo.cmp v.key key) L p := ⟨_, rfl⟩
 rw [← hF] at hs ⊢
 have HS := Lib.hid hs
 clear hs hF hT hp
 go_enter Tryz.func104, Tryz.ntmps104
 go_wp2_with fail
 refine HS.out.mono ?_
 rintro e w1 ⟨rfl, hb1⟩
 go_wp2_with fail
 go_ret2
 exact ⟨rfl, hb1⟩
def vNum (L : List VI) (key p : Nat) : Int := match L[p]? with
 | some x => if Flo.cmp x.key key = 0 then x.num else 0
 | none => 0
set_option maxHeartbeats 1600000 in
theorem vat_any (base N most : Nat) (ae : Option Addr) (n cap : Nat) (L : List VI) (key : Nat) (hkey : key < 18446744073709551616) (p : Nat) (hp : Turns (fun v : VI => Flo.cmp v.key key) L p) (w : World) (hT : VT w base N most ae n cap L) :
 Calls Tryz.prog 101 #[.pointer (some ⟨N, 0, none⟩), .float .f64 key] w (RetBox w (.int .i64 (vNum L key p))) := by
 have hs := place_any base N most ae n cap L key hkey p hp w hT
 have HS := Lib.hid hs
 have HT := Lib.hid hT
 have hb64 : n ≤ 64 := by have := hT.2.2.2.2.2.1; have := hT.2.2.2.2.2.2.1; omega
 clear hs hT
 cases hv : L[p]? with
 | none =>
   have hF : foundAt (fun v : VI => Flo.cmp v.key key) L p = false := by unfold foundAt; rw [hv]
   have hR : vNum L key p = 0 := by unfold vNum; rw [hv]
   rw [hF] at HS
   rw [hR]
   clear hF hR
   go_enter Tryz.func101, Tryz.ntmps101
   go_wp2_with fail
   refine HS.out.mono ?_
   rintro e w1 ⟨rfl, hb1⟩
   have HB := Lib.hid hb1
   clear hb1
   go_wp2_with fail
   go_ret
   exact ⟨rfl, HB.out⟩
 | some x =>
   by_cases hc : Flo.cmp x.key key = 0
   · have hF : foundAt (fun v : VI => Flo.cmp v.key key) L p = true := by unfold foundAt; rw [hv]; exact decide_eq_true hc
     have hR : vNum L key p = x.num := by unfold vNum; rw [hv]; exact if_pos hc
     have hpn : p < n := by rw [← HT.out.2.1]; exact (List.getElem?_eq_some_iff.1 hv).1
     rw [hF] at HS
     rw [hR]
     have HV := Lib.hid hv
     clear hF hR hc hv hp
     have hpi : (p : Int) < (n : Int) := by omega
     have hp0 : (0 : Int) ≤ (p : Int) := by omega
     have hpt : ((p : Int)).toNat = p := by omega
     obtain ⟨b, off, rfl, e0, e1⟩ := vi_at (RowN.of_own HT.out.2.2.1) HT.out.2.1 p hpn x HV.out
     go_enter Tryz.func101, Tryz.ntmps101
     go_wp2_with fail
     refine HS.out.mono ?_
     rintro e w1 ⟨rfl, hb1⟩
     have h1 := (HT.out.below hb1).f1
     have e1' := (below_cell hb1 _ (by rw [e1]; rfl)).trans e1
     have HB := Lib.hid hb1
     clear hb1 e0 e1
     go_wp2_with fail
     go_ret
     exact ⟨rfl, HB.out⟩
   · have hF : foundAt (fun v : VI => Flo.cmp v.key key) L p = false := by unfold foundAt; rw [hv]; exact decide_eq_false hc
     have hR : vNum L key p = 0 := by unfold vNum; rw [hv]; exact if_neg hc
     rw [hF] at HS
     rw [hR]
     clear hF hR hc hv hp
     go_enter Tryz.func101, Tryz.ntmps101
     go_wp2_with fail
     refine HS.out.mono ?_
     rintro e w1 ⟨rfl, hb1⟩
     have HB := Lib.hid hb1
     clear hb1
     go_wp2_with fail
     go_ret
     exact ⟨rfl, HB.out⟩
end Go.Proofs.YtpknmfmpiachkaaGreat
namespace Go.Proofs.YtpknmfmpiachkaaGreat
open Go.RowKit
theorem setV (L : List VI) (p : Nat) (x : VI) (m : Int) (h : L[p]? = some x) : (L.flatMap VI.cells).set (p * 2 + 1) (.int .i64 m) = (L.set p ⟨x.key, m⟩).flatMap VI.cells := by
 induction L generalizing p with
 | nil => cases h
 | cons v r ih =>
   cases p with
   | zero =>
     rw [List.getElem?_cons_zero, Option.some.injEq] at h
     subst h
     rfl
   | succ p =>
     rw [List.getElem?_cons_succ] at h
     have := ih p h
     rw [List.set_cons_succ, List.flatMap_cons, List.flatMap_cons, ← this]
     show ([_, _] ++ _ : List Value).set _ _ = _
     rw [show (p + 1) * 2 + 1 = (p * 2 + 1) + 1 + 1 by omega]
     rfl
theorem VT.set {w base N most g n cap L} (h : VT w base N most (some ⟨g, 0, none⟩) n cap L) {p : Nat} {x : VI} (hp : L[p]? = some x) (m : Int) : VT (w.setCell ⟨g, p * 2 + 1, none⟩ (.int .i64 m)) base N most (some ⟨g, 0, none⟩) n cap (L.set p ⟨x.key, m⟩) := by
 obtain ⟨h1, h2, h3, h4, h5, h6, h7, h8⟩ := h
 obtain ⟨hl, hr⟩ := h3
 rcases hr with ⟨h9, _⟩ | ⟨g', cp, cur, h9, h10, h11, h12, h13, h14, h15⟩
 · cases h9
 simp only [Value.slice.injEq, Option.some.injEq, Addr.mk.injEq, and_true, true_and] at h9
 obtain ⟨rfl, rfl⟩ := h9
 have hgr := grown_set w g (p * 2 + 1) (.int .i64 m)
 have hb := set_block (i := p * 2 + 1) h11 (.int .i64 m)
 refine ⟨(hgr.block N (lt_of_block h1) (by simp; omega)).trans h1, by rw [List.length_set, h2], ⟨?_, .inr ⟨g, cap, _, rfl, h10, hb, h12, h13, ?_, ?_⟩⟩, h4, Nat.le_trans h5 hgr.size, h6, h7, fun v hv => ?_⟩
 · rw [← setV L p x m hp, List.length_set, hl]
 · rw [Array.size_setIfInBounds, h14]
 · rw [Array.toList_setIfInBounds, List.take_set, h15, setV L p x m hp]
 · rcases List.mem_or_eq_of_mem_set hv with hv | rfl
   · exact h8 v hv
   · exact h8 x (List.mem_of_getElem? hp)
structure Only (S : Nat → Prop) (w w' : World) : Prop where
 os : w'.os = w.os
 tape : w'.tape = w.tape
 output : w'.output = w.output
 size : w.heap.size ≤ w'.heap.size
 block : ∀ k, k < w.heap.size → ¬ S k → w'.heap[k]? = w.heap[k]?
theorem Only.refl (S : Nat → Prop) (w : World) : Only S w w := ⟨rfl, rfl, rfl, Nat.le_refl _, fun _ _ _ => rfl⟩
theorem Only.trans {S T : Nat → Prop} {a b c : World} (h : Only S a b) (k : Only T b c) (hs : ∀ j, j < a.heap.size → T j → S j) : Only S a c :=
 ⟨k.os.trans h.os, k.tape.trans h.tape, k.output.trans h.output, Nat.le_trans h.size k.size, fun j hj hn => (k.block j (Nat.lt_of_lt_of_le hj h.size) fun ht => hn (hs j hj ht)).trans (h.block j hj hn)⟩
theorem Only.of_below {S : Nat → Prop} {w w' : World} (h : Below w.heap.size w w') : Only S w w' := ⟨h.os, h.tape, h.output, h.size, fun k hk _ => h.block k hk⟩
theorem Only.of_grown {S : Nat → Prop} {w w' : World} {row : Option Nat} (h : w.grownBy w' row) (hs : ∀ g, row = some g → g < w.heap.size → S g) : Only S w w' :=
 ⟨h.os, h.tape, h.output, h.size, fun k hk hn => h.block k hk fun hr => hn (hs k hr.symm hk)⟩
theorem Only.drew {S : Nat → Prop} {w w' : World} (h : Only S w w') : Only S w w'.drew := ⟨h.os, h.tape, h.output, h.size, h.block⟩
def VS (N : Nat) (ae : Option Addr) (n cap : Nat) (k : Nat) : Prop := k = N ∨ Value.ownBlock (.slice ae n cap) = some k
def VPut (w : World) (base N most : Nat) (ae : Option Addr) (n cap : Nat) (L' : List VI) (e : Ending) (w' : World) : Prop :=
 e = .returned (.int .i64 0) ∧ ∃ ae' n' cap', VT w' base N most ae' n' cap' L' ∧ Only (VS N ae n cap) w w' ∧ (Value.ownBlock (.slice ae' n' cap') = Value.ownBlock (.slice ae n cap) ∨ ∃ g, Value.ownBlock (.slice ae' n' cap') = some g ∧ w.heap.size ≤ g)
theorem VT.drew {w base N most ae n cap L} (h : VT w base N most ae n cap L) : VT w.drew base N most ae n cap L := h.below (Below.refl _ _).drew
set_option maxRecDepth 100000 in
set_option maxHeartbeats 6400000 in
theorem vput_max (base N most : Nat) (ae : Option Addr) (n cap : Nat) (L : List VI) (key : Nat) (hkey : key < 18446744073709551616) (hnan : Flo.nan key = false) (num : Int) (hn1 : 1 ≤ num) (hn2 : num ≤ 1099511627776) (p : Nat) (hp : Turns (fun v : VI => Flo.cmp v.key key) L p) (x : VI) (hx : L[p]? = some x) (hc : Flo.cmp x.key key = 0) (w : World) (hT : VT w base N most ae n cap L) :
 Calls Tryz.prog 61 #[.pointer (some ⟨N, 0, none⟩), .float .f64 key, .int .i64 num] w (VPut w base N most ae n cap (L.set p ⟨x.key, max x.num num⟩)) := by
 have hs := place_any base N most ae n cap L key hkey p hp w hT
 have hF : foundAt (fun v : VI => Flo.cmp v.key key) L p = true := by unfold foundAt; rw [hx]; exact decide_eq_true hc
 rw [hF] at hs
 have HS := Lib.hid hs
 have HT := Lib.hid hT
 have hb64 : n ≤ 64 := by have := hT.2.2.2.2.2.1; have := hT.2.2.2.2.2.2.1; omega
 have hpn : p < n := by rw [← hT.2.1]; exact (List.getElem?_eq_some_iff.1 hx).1
 have HX := Lib.hid hx
 have hnn := isNaN_any key
 rw [hnan] at hnn
 have HN := Lib.hid hnn
 obtain ⟨g, rfl⟩ : ∃ g, ae = some ⟨g, 0, none⟩ := by
  rcases hT.2.2.1.2 with ⟨h1, h0⟩ | ⟨g, cp, cur, h1, _⟩
  · omega
  · injection h1 with h1 _ _
    exact ⟨g, h1⟩
 have hgN : ¬ g = N := fun h => by
  rcases hT.2.2.1.2 with ⟨h1, h0⟩ | ⟨g', cp, cur, h1, hb, _⟩
  · omega
  · simp only [Value.slice.injEq, Option.some.injEq, Addr.mk.injEq, and_true, true_and] at h1
    have := hT.2.2.2.1
    omega
 have hpi : (p : Int) < (n : Int) := by omega
 have hp0 : (0 : Int) ≤ (p : Int) := by omega
 have hpt : ((p : Int)).toNat = p := by omega
 have hm1 : ¬ num < 1 := by omega
 have hm2 : ¬ 1099511627776 < num := by omega
 clear hs hT hF hc hx hp hnn hnan
 go_enter Tryz.func61, Tryz.ntmps61
 go_wp2_with fail
 refine HS.out.mono ?_
 rintro e w1 ⟨rfl, hb1⟩
 have HB := Lib.hid hb1
 have hT1 := HT.out.below hb1
 have HT1 := Lib.hid hT1
 have h1 := hT1.f1
 obtain ⟨b, off, hbo, e0, e1⟩ := vi_at (RowN.of_own hT1.2.2.1) hT1.2.1 p hpn x HX.out
 simp only [Option.some.injEq, Addr.mk.injEq, and_true] at hbo
 obtain ⟨rfl, rfl⟩ := hbo
 rw [Nat.zero_add] at e0 e1
 have f1 : w1.frozen? ⟨g, p * 2 + 1, none⟩ = false := World.ownsRow.frozenAt hT1.2.2.1 _
 clear hb1 hT1
 go_wp2_with fail
 refine (HN.out _).mono ?_
 rintro e w2 ⟨rfl, rfl⟩
 go_wp2_with fail
 go_region
 go_wp2
 go_ret
 refine ⟨rfl, some ⟨g, 0, none⟩, n, cap, (HT1.out.set HX.out _).drew, Only.drew ((Only.of_below HB.out).trans (Only.of_grown (grown_set w1 g (p * 2 + 1) _) (S := VS N (some ⟨g, 0, none⟩) n cap) fun g' hg _ => .inr hg) fun _ _ h => h), .inl rfl⟩
set_option maxRecDepth 100000 in
set_option maxHeartbeats 6400000 in
theorem vput_full (base N most : Nat) (ae : Option Addr) (cap : Nat) (L : List VI) (key : Nat) (hkey : key < 18446744073709551616) (hnan : Flo.nan key = false) (num : Int) (hn1 : 1 ≤ num) (hn2 : num ≤ 1099511627776) (p : Nat) (hp : Turns (fun v : VI => Flo.cmp v.key key) L p) (hF : foundAt (fun v : VI => Flo.cmp v.key key) L p = false) (w : World) (hT : VT w base N most ae most cap L) :
 Calls Tryz.prog 61 #[.pointer (some ⟨N, 0, none⟩), .float .f64 key, .int .i64 num] w (RetBox w (.int .i64 3)) := by
 have hs := place_any base N most ae most cap L key hkey p hp w hT
 rw [hF] at hs
 have HS := Lib.hid hs
 have HT := Lib.hid hT
 have hnn := isNaN_any key
 rw [hnan] at hnn
 have HN := Lib.hid hnn
 have hm1 : ¬ num < 1 := by omega
 have hm2 : ¬ 1099511627776 < num := by omega
 clear hs hT hF hp hnn hnan
 go_enter Tryz.func61, Tryz.ntmps61
 go_wp2_with fail
 refine HS.out.mono ?_
 rintro e w1 ⟨rfl, hb1⟩
 have HB := Lib.hid hb1
 have h1 := (HT.out.below hb1).f1
 have h0 := (HT.out.below hb1).f0
 clear hb1
 go_wp2_with fail
 refine (HN.out _).mono ?_
 rintro e w2 ⟨rfl, rfl⟩
 go_wp2_with fail
 go_region
 go_wp2
 go_ret
 exact ⟨rfl, HB.out.drew⟩
end Go.Proofs.YtpknmfmpiachkaaGreat
