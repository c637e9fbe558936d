/- A table of keys: Put of a new key. -/
import Derived.Test.YtpknmfmpiachkaaGreatVers3
namespace Go.Proofs.YtpknmfmpiachkaaGreat
open Go.RowKit
theorem takeV (vs : List VI) : ∀ i, (vs.flatMap VI.cells).take (i * 2) = (vs.take i).flatMap VI.cells := by
 induction vs with
 | nil => intro i; simp
 | cons x r ih =>
   intro i
   cases i with
   | zero => simp
   | succ i =>
     rw [List.take_succ_cons, List.flatMap_cons, List.flatMap_cons, ← ih i, show (i + 1) * 2 = i * 2 + 1 + 1 by omega]
     rfl
theorem cells_oneV (L : List VI) : ∀ u ∈ L.flatMap VI.cells, u.oneCell' = true := fun u hu => by
 obtain ⟨v, _, hu⟩ := List.mem_flatMap.1 hu
 simp only [VI.cells, List.mem_cons, List.not_mem_nil, or_false] at hu
 rcases hu with rfl | rfl <;> rfl
def vIns (L : List VI) (p key : Nat) (num : Int) : List VI := L.take p ++ [⟨Flo.canon key, num⟩] ++ L.drop p
theorem VT.apart {w base N most ae n cap L} (h : VT w base N most ae n cap L) : Value.ownBlock (.slice ae n cap) ≠ some N := fun he => by
 obtain ⟨h1, h2, h3, h4, _⟩ := h
 rcases h3.2 with ⟨h5, _⟩ | ⟨g, cp, cur, h5, h6, _⟩
 · rw [h5] at he; cases he
 · rw [h5] at he
   have : g = N := by simpa [Value.ownBlock] using he
   omega
theorem VT.put {w w1 Y w3 base N most ae n cap L} (hb : Below w.heap.size w w1) (hbY : Below w1.heap.size w1 Y) (hTY : VT Y base N most ae n cap L) (hroom : n < most) {key : Nat} (hkey : key < 18446744073709551616) {num : Int} {p : Nat} {ao3 : Option Addr} {cp3 : Nat}
 (ho : w3.ownsRow base 179 2 (.slice ao3 (n + 1) cp3) (n + 1) ((L.flatMap VI.cells).take (p * 2) ++ VI.cells ⟨Flo.canon key, num⟩ ++ (L.flatMap VI.cells).drop (p * 2))) (hg : Y.grownBy w3 (Value.ownBlock (.slice ae n cap)))
 (ha : Value.ownBlock (.slice ao3 (n + 1) cp3) = Value.ownBlock (.slice ae n cap) ∨ ∃ g, Value.ownBlock (.slice ao3 (n + 1) cp3) = some g ∧ Y.heap.size ≤ g) (hN : w3.heap[N]? = some (.cells #[.int .i64 (most : Nat), .slice ae n cap] 110 (0, 0))) :
 VPut w base N most ae n cap (vIns L p key num) (.returned (.int .i64 0)) (w3.setCell ⟨N, 1, none⟩ (.slice ao3 (n + 1) cp3)) := by
 have hgs := grown_set w3 N 1 (.slice ao3 (n + 1) cp3)
 have hwY := Nat.le_trans hb.size hbY.size
 have hlen : (vIns L p key num).length = n + 1 := by
  have := hTY.2.1
  simp only [vIns, List.length_append, List.length_take, List.length_drop, List.length_singleton]
  omega
 refine ⟨rfl, ao3, n + 1, cp3, ⟨set_block (i := 1) hN _, hlen, ?_, hTY.2.2.2.1, Nat.le_trans hTY.2.2.2.2.1 (Nat.le_trans hg.size hgs.size), hroom, hTY.2.2.2.2.2.2.1, fun v hv => ?_⟩, ?_, ?_⟩
 · rw [takeV, dropV] at ho
   have := ownsRow_setCell_below ho (a := ⟨N, 1, none⟩) hTY.2.2.2.1 (.slice ao3 (n + 1) cp3)
   simpa [vIns] using this
 · simp only [vIns, List.mem_append, List.mem_singleton] at hv
   rcases hv with (hv | rfl) | hv
   · exact hTY.2.2.2.2.2.2.2 v (List.mem_of_mem_take hv)
   · exact Flo.canon_lt _ hkey
   · exact hTY.2.2.2.2.2.2.2 v (List.mem_of_mem_drop hv)
 · refine ((Only.of_below hb).trans (Only.of_below (S := VS N ae n cap) hbY) fun _ _ h => h).trans (((Only.of_grown hg fun g h _ => .inr h).trans (Only.of_grown hgs fun g h _ => .inl ?_) fun _ _ h => h)) fun _ _ h => h
   exact (Option.some.inj h).symm
 · rcases ha with ha | ⟨g, h1, h2⟩
   · exact .inl ha
   · exact .inr ⟨g, h1, Nat.le_trans hwY h2⟩
set_option maxRecDepth 100000 in
set_option maxHeartbeats 6400000 in
theorem vput_ins (base N most : Nat) (ae : Option Addr) (n cap : Nat) (L : List VI) (key : Nat) (hkey : key < 18446744073709551616) (hnan : Flo.nan key = false) (num : Int) (hn1 : 1 ≤ num) (hn2 : num ≤ 1099511627776) (p : Nat) (hp : Turns (fun v : VI => Flo.cmp v.key key) L p) (hF : foundAt (fun v : VI => Flo.cmp v.key key) L p = false) (hroom : n < most) (w : World) (hT : VT w base N most ae n cap L) :
 Calls Tryz.prog 61 #[.pointer (some ⟨N, 0, none⟩), .float .f64 key, .int .i64 num] w (VPut w base N most ae n cap (vIns L p key num)) := by
 have hs := place_any base N most ae n cap L key hkey p hp w hT
 rw [hF] at hs
 have HS := Lib.hid hs
 have HT := Lib.hid hT
 have hpn : p ≤ n := by rw [← hT.2.1]; exact hp.1
 have hnn := isNaN_any key
 rw [hnan] at hnn
 have HN := Lib.hid hnn
 have HCN := Lib.hid (canon_any key)
 have hm1 : ¬ num < 1 := by omega
 have hm2 : ¬ 1099511627776 < num := by omega
 have hmn : ((n : Int) == (most : Int)) = false := by simp; omega
 have hmn' : ¬ n = most := by omega
 have hm64 := hT.2.2.2.2.2.2.1
 clear hs hT hF hp hnn hnan
 go_enter Tryz.func61, Tryz.ntmps61
 go_wp2_with fail
 refine HS.out.mono ?_
 rintro e w1 ⟨rfl, hb1⟩
 have HB := Lib.hid hb1
 have hT1 := HT.out.below hb1
 have HT1 := Lib.hid hT1
 have h1 := hT1.f1
 have h0 := hT1.f0
 clear hb1
 go_wp2_with fail
 refine (HN.out _).mono ?_
 rintro e w2 ⟨rfl, rfl⟩
 go_wp2_with fail
 go_region
 go_wp2_with fail
 obtain ⟨Y, hY⟩ : ∃ Y, Y = (w1.alloc (.cells #[.float .f64 (Flo.canon key), .int .i64 num] 179)).drew.drew := ⟨_, rfl⟩
 have hbY : Below w1.heap.size w1 Y := hY ▸ (below_alloc (Below.refl _ _) _).drew.drew
 have hTY := HT1.out.below hbY
 have y1 := hTY.f1
 have hYB : Y.heap[w1.heap.size]? = some (.cells #[.float .f64 (Flo.canon key), .int .i64 num] 179 (0, 0)) := hY ▸ heap_alloc_new w1 _
 have hins := insV_any base ae n cap p (L.flatMap VI.cells) (VI.cells ⟨Flo.canon key, num⟩) w1.heap.size Y hTY.2.2.1 (cells_oneV L) hYB rfl (by simpa using cells_oneV [⟨Flo.canon key, num⟩]) (fun g hg => by
  rcases HT1.out.2.2.1.2 with ⟨h1, h0⟩ | ⟨g', cp, cur, h1, hb, hh, _⟩
  · injection h1 with h1 _ _
    rw [hg] at h1; cases h1
  · injection h1 with h1 _ _
    rw [hg, Option.some.injEq] at h1
    subst h1
    have := lt_of_block hh
    simp only
    omega) hpn (by omega) hTY.2.2.2.2.1
 have HI := Lib.hid hins
 have HTY := Lib.hid hTY
 have HBY := Lib.hid hbY
 clear hins hTY hbY hYB hT1
 refine wp_region_noPanic ?_
 refine wp_region_held_drew (S := (fun _ => True)) (by kernel_rfl) ?_ (fun hHeld0 => ?_)
 · trivial
 refine wu 0 rfl ?_
 refine wu 1 rfl ?_
 refine wu 2 rfl ?_
 refine wu 3 rfl ?_
 refine wu 5 rfl ?_
 refine wu 6 rfl ?_
 refine wu 8 rfl ?_
 refine wz 4 7 rfl (fun K hK => ?_) rfl fun K hK => ?_
 · skip
   go_simp
   refine hK.out _ _ ?_ (fun hHeld1 => ?_)
   · trivial
   clear hK K hHeld0
   try simp only [Act.put, List.setIfInBounds_toArray, List.set]
   refine wy 7 rfl fun K hK => ?_
   go_simp
   refine (HCN.out _).mono ?_
   rintro e w2 ⟨rfl, rfl⟩
   go_wp2_with fail
   refine hK.out _ _ ?_ (fun hHeld2 => ?_)
   · trivial
   clear hK K hHeld1
   try simp only [Act.put, List.setIfInBounds_toArray, List.set]
   refine wu 9 rfl ?_
   refine wy 10 rfl fun K hK => ?_
   go_simp
   refine hK.out _ _ ?_ (fun hHeld3 => ?_)
   · trivial
   clear hK K hHeld2
   try simp only [Act.put, List.setIfInBounds_toArray, List.set]
   rw [← hY]
   clear hY
   refine wy 11 rfl fun K hK => ?_
   go_simp
   refine HI.out.mono ?_
   rintro e w3 ⟨ao3, cp3, rfl, hown3, hg3, hat3⟩
   have hN3 : w3.heap[N]? = some (.cells #[.int .i64 (most : Nat), .slice ae n cap] 110 (0, 0)) := (hg3.block N (lt_of_block HTY.out.1) (fun h => HT1.out.apart h.symm)).trans HTY.out.1
   have n1 : w3.cell? ⟨N, 1, none⟩ = some (.slice ae n cap) := by simp [World.cell?, hN3]
   have f1 : w3.frozen? ⟨N, 1, none⟩ = false := by simp [World.frozen?, hN3]
   have HO3 := Lib.hid hown3
   have HG3 := Lib.hid hg3
   have HA3 := Lib.hid hat3
   have HN3 := Lib.hid hN3
   clear hown3 hg3 hat3 hN3
   go_wp2_with fail
   refine hK.out _ _ ?_ (fun hHeld4 => ?_)
   · trivial
   clear hK K hHeld3
   try simp only [Act.put, List.setIfInBounds_toArray, List.set]
   refine wu 12 rfl ?_
   refine wu 13 rfl ?_
   refine wy 14 rfl fun K hK => ?_
   go_simp
   refine hK.out _ _ ?_ (fun hHeld5 => ?_)
   · trivial
   clear hK K hHeld4
   try simp only [Act.put, List.setIfInBounds_toArray, List.set]
   refine wpAnyH_done (by kernel_rfl) ?_ _
   refine NoPanic.normal ?_
   go_wp2
   go_ret
   exact VT.put HB.out HBY.out HTY.out (by omega) hkey HO3.out HG3.out HA3.out HN3.out
 · skip
   go_simp
   refine (HCN.out _).mono ?_
   rintro e w2 ⟨rfl, rfl⟩
   go_wp2_with fail
   refine hK.out _ _ ?_ (fun hHeld6 => ?_)
   · trivial
   clear hK K hHeld0
   try simp only [Act.put, List.setIfInBounds_toArray, List.set]
   refine wu 9 rfl ?_
   refine wz 4 10 rfl (fun K hK => ?_) rfl fun K hK => ?_
   · skip
     go_simp
     refine hK.out _ _ ?_ (fun hHeld7 => ?_)
     · trivial
     clear hK K hHeld6
     try simp only [Act.put, List.setIfInBounds_toArray, List.set]
     refine wy 10 rfl fun K hK => ?_
     go_simp
     refine hK.out _ _ ?_ (fun hHeld8 => ?_)
     · trivial
     clear hK K hHeld7
     try simp only [Act.put, List.setIfInBounds_toArray, List.set]
     rw [← hY]
     clear hY
     refine wy 11 rfl fun K hK => ?_
     go_simp
     refine HI.out.mono ?_
     rintro e w3 ⟨ao3, cp3, rfl, hown3, hg3, hat3⟩
     have hN3 : w3.heap[N]? = some (.cells #[.int .i64 (most : Nat), .slice ae n cap] 110 (0, 0)) := (hg3.block N (lt_of_block HTY.out.1) (fun h => HT1.out.apart h.symm)).trans HTY.out.1
     have n1 : w3.cell? ⟨N, 1, none⟩ = some (.slice ae n cap) := by simp [World.cell?, hN3]
     have f1 : w3.frozen? ⟨N, 1, none⟩ = false := by simp [World.frozen?, hN3]
     have HO3 := Lib.hid hown3
     have HG3 := Lib.hid hg3
     have HA3 := Lib.hid hat3
     have HN3 := Lib.hid hN3
     clear hown3 hg3 hat3 hN3
     go_wp2_with fail
     refine hK.out _ _ ?_ (fun hHeld9 => ?_)
     · trivial
     clear hK K hHeld8
     try simp only [Act.put, List.setIfInBounds_toArray, List.set]
     refine wu 12 rfl ?_
     refine wu 13 rfl ?_
     refine wy 14 rfl fun K hK => ?_
     go_simp
     refine hK.out _ _ ?_ (fun hHeld10 => ?_)
     · trivial
     clear hK K hHeld9
     try simp only [Act.put, List.setIfInBounds_toArray, List.set]
     refine wpAnyH_done (by kernel_rfl) ?_ _
     refine NoPanic.normal ?_
     go_wp2
     go_ret
     exact VT.put HB.out HBY.out HTY.out (by omega) hkey HO3.out HG3.out HA3.out HN3.out
   · skip
     go_simp
     refine hK.out _ _ ?_ (fun hHeld11 => ?_)
     · trivial
     clear hK K hHeld6
     try simp only [Act.put, List.setIfInBounds_toArray, List.set]
     rw [← hY]
     clear hY
     refine wy 4 rfl fun K hK => ?_
     go_simp
     refine hK.out _ _ ?_ (fun hHeld12 => ?_)
     · trivial
     clear hK K hHeld11
     try simp only [Act.put, List.setIfInBounds_toArray, List.set]
     refine wy 11 rfl fun K hK => ?_
     go_simp
     refine HI.out.mono ?_
     rintro e w3 ⟨ao3, cp3, rfl, hown3, hg3, hat3⟩
     have hN3 : w3.heap[N]? = some (.cells #[.int .i64 (most : Nat), .slice ae n cap] 110 (0, 0)) := (hg3.block N (lt_of_block HTY.out.1) (fun h => HT1.out.apart h.symm)).trans HTY.out.1
     have n1 : w3.cell? ⟨N, 1, none⟩ = some (.slice ae n cap) := by simp [World.cell?, hN3]
     have f1 : w3.frozen? ⟨N, 1, none⟩ = false := by simp [World.frozen?, hN3]
     have HO3 := Lib.hid hown3
     have HG3 := Lib.hid hg3
     have HA3 := Lib.hid hat3
     have HN3 := Lib.hid hN3
     clear hown3 hg3 hat3 hN3
     go_wp2_with fail
     refine hK.out _ _ ?_ (fun hHeld13 => ?_)
     · trivial
     clear hK K hHeld12
     try simp only [Act.put, List.setIfInBounds_toArray, List.set]
     refine wu 12 rfl ?_
     refine wu 13 rfl ?_
     refine wy 14 rfl fun K hK => ?_
     go_simp
     refine hK.out _ _ ?_ (fun hHeld14 => ?_)
     · trivial
     clear hK K hHeld13
     try simp only [Act.put, List.setIfInBounds_toArray, List.set]
     refine wpAnyH_done (by kernel_rfl) ?_ _
     refine NoPanic.normal ?_
     go_wp2
     go_ret
     exact VT.put HB.out HBY.out HTY.out (by omega) hkey HO3.out HG3.out HA3.out HN3.out
end Go.Proofs.YtpknmfmpiachkaaGreat
namespace Go.Proofs.YtpknmfmpiachkaaGreat
open Go.RowKit
def overL (hi : Nat) : List VI → Int → Int
 | [], m => m
 | v :: r, m => if Flo.fle v.key hi then overL hi r (max m v.num) else m
set_option maxRecDepth 100000 in
set_option maxHeartbeats 6400000 in
theorem vover_any (base N most : Nat) (ae : Option Addr) (n cap : Nat) (L : List VI) (s : Spn) (hs : s.ok) (p : Nat) (hp : Turns (fun v : VI => Flo.cmp v.key (canonS s).lo) L p) (w : World) (hT : VT w base N most ae n cap L) :
 Calls Tryz.prog 137 #[.pointer (some ⟨N, 0, none⟩), s.agg] w (RetBox w (.int .i64 (if emptyS (canonS s) then 0 else overL (canonS s).hi (L.drop p) 0))) := by
 have hc := canonS_any s hs
 have hok := canonS_ok s hs
 obtain ⟨C, hC⟩ : ∃ C, C = canonS s := ⟨_, rfl⟩
 rw [← hC] at hc hok hp ⊢
 have he := emptyS_any C hok
 obtain ⟨E, hE⟩ : ∃ E, E = emptyS C := ⟨_, rfl⟩
 rw [← hE] at he ⊢
 have hpl := fun W hW => place_any base N most ae n cap L C.lo hok.1 p hp W hW
 obtain ⟨F, hF⟩ : ∃ F, F = foundAt (fun v : VI => Flo.cmp v.key C.lo) L p := ⟨_, rfl⟩
 rw [← hF] at hpl
 have hpn : p ≤ n := by rw [← hT.2.1]; exact hp.1
 have hb64 : n ≤ 64 := by have := hT.2.2.2.2.2.1; have := hT.2.2.2.2.2.2.1; omega
 obtain ⟨lo, hi, lop, hop⟩ := s
 obtain ⟨clo, chi, clop, chop⟩ := C
 simp only at hpl hok
 unfold Spn.agg at hc he ⊢
 simp only at hc he ⊢
 have HC := Lib.hid hc
 have HE := Lib.hid he
 have HP := Lib.hid hpl
 have HT := Lib.hid hT
 have HOK := Lib.hid hok
 obtain ⟨R, hR⟩ : ∃ R, R = (if E then 0 else overL chi (L.drop p) 0) := ⟨_, rfl⟩
 rw [← hR]
 have HR := Lib.hid hR
 clear hc he hpl hC hE hF hp hs hok hR
 obtain ⟨Y, hY⟩ : ∃ Y, Y = w.alloc (.cells #[.float .f64 lo, .float .f64 hi, .bool lop, .bool hop] 101) := ⟨_, rfl⟩
 have hbY : Below w.heap.size w Y := hY ▸ below_alloc (Below.refl _ _) _
 have hYB : Y.heap[w.heap.size]? = some (.cells #[.float .f64 lo, .float .f64 hi, .bool lop, .bool hop] 101 (0, 0)) := hY ▸ heap_alloc_new w _
 have HBY := Lib.hid hbY
 have HYB := Lib.hid hYB
 obtain ⟨⟨a0, a1, a2, a3⟩, _⟩ := four_cells hYB
 clear hbY hYB hT
 go_enter Tryz.func137, Tryz.ntmps137
 go_upto_region 1 with fail
 rw [← hY]
 clear hY
 go_wp2_with fail
 refine (HC.out _).mono ?_
 rintro e w1 ⟨rfl, hb1⟩
 have h1B := (hb1.block w.heap.size (lt_of_block HYB.out)).trans HYB.out
 obtain ⟨⟨c0, c1, c2, c3⟩, i0, i1, i2, i3⟩ := four_cells h1B
 have HB1 := Lib.hid (below_then HBY.out hb1)
 have H1B := Lib.hid h1B
 clear hb1 a0 a1 a2 a3 h1B
 go_upto_region 2 with fail
 have h2B := set4 H1B.out (.float .f64 clo) (.float .f64 chi) (.bool clop) (.bool chop)
 have hb2 := below_set4 HB1.out (Nat.le_refl _) (.float .f64 clo) (.float .f64 chi) (.bool clop) (.bool chop)
 generalize ((((w1.setCell ⟨w.heap.size, 0, none⟩ (.float .f64 clo)).setCell ⟨w.heap.size, 1, none⟩ (.float .f64 chi)).setCell ⟨w.heap.size, 2, none⟩ (.bool clop)).setCell ⟨w.heap.size, 3, none⟩ (.bool chop)) = w2 at h2B hb2 ⊢
 obtain ⟨⟨d0, d1, d2, d3⟩, _⟩ := four_cells h2B
 have HB2 := Lib.hid hb2
 have H2B := Lib.hid h2B
 clear hb2 h2B c0 c1 c2 c3 i0 i1 i2 i3
 go_wp2_with fail
 refine (HE.out _).mono ?_
 rintro e w3 ⟨rfl, hb3⟩
 have h3B := (hb3.block w.heap.size (lt_of_block H2B.out)).trans H2B.out
 obtain ⟨⟨e0, e1, e2, e3⟩, _⟩ := four_cells h3B
 have HB3 := Lib.hid (below_then HB2.out hb3)
 have H3B := Lib.hid h3B
 clear hb3 h3B d0 d1 d2 d3
 cases E with
 | true =>
   go_wp2_with fail
   go_ret
   exact ⟨by rw [HR.out]; rfl, HB3.out⟩
 | false =>
   have HRF : Hid (R = overL chi (L.drop p) 0) := HR.out
   clear HR
   go_wp2_with fail
   refine (HP.out _ (HT.out.below HB3.out)).mono ?_
   rintro e w4 ⟨rfl, hb4⟩
   have h4B := (hb4.block w.heap.size (lt_of_block H3B.out)).trans H3B.out
   have HB4 := Lib.hid (below_then HB3.out hb4)
   have H4B := Lib.hid h4B
   clear hb4 h4B e0 e1 e2 e3
   go_wp2_with fail
   go_loopw [5, 6] (fun s5 s6 wr => ∃ (k : Nat) (m : Int), s5 = .int .i64 m ∧ s6 = .int .i64 k ∧ k ≤ n ∧ Hid (overL chi (L.drop k) m = overL chi (L.drop p) 0) ∧ Hid (Below w.heap.size w wr) ∧ Hid (wr.heap[w.heap.size]? = some (.cells #[.float .f64 clo, .float .f64 chi, .bool clop, .bool chop] 101 (0, 0)))) (fun _ s6 _ => n - (intOf s6).toNat)
   case atStart => exact ⟨p, 0, rfl, rfl, hpn, rfl, HB4.out, H4B.out⟩
   case round =>
    obtain ⟨k, m, rfl, rfl, hk, HM, HBW, HBB⟩ := hrel
    have hTw := HT.out.below HBW.out
    have h1 := hTw.f1
    obtain ⟨⟨e0, e1, e2, e3⟩, _⟩ := four_cells HBB.out
    have hk0 : (0 : Int) ≤ (k : Int) := by omega
    have hnat : ((k : Int)).toNat = k := by omega
    by_cases hlt : k < n
    · obtain ⟨x, hx⟩ : ∃ x, L[k]? = some x := ⟨_, List.getElem?_eq_getElem (by rw [hTw.2.1]; exact hlt)⟩
      obtain ⟨b, off, rfl, g0, g1⟩ := vi_at (RowN.of_own hTw.2.2.1) hTw.2.1 k hlt x hx
      have hkn : (k : Int) < (n : Int) := by omega
      have hdr : L.drop k = x :: L.drop (k + 1) := drop_at hx
      have hle := Flo.run_le x.key chi (HT.out.2.2.2.2.2.2.2 x (List.mem_of_getElem? hx)) HOK.out.2
      have hm := HM.out
      rw [hdr] at hm
      replace hm : (if Flo.fle x.key chi then overL chi (L.drop (k + 1)) (max m x.num) else m) = overL chi (L.drop p) 0 := hm
      obtain ⟨G, hG⟩ : ∃ G, G = Flo.fle x.key chi := ⟨_, rfl⟩
      rw [← hG] at hle hm
      have HM2 := Lib.hid hm
      clear hTw hx hdr hm hG
      cases G with
      | true =>
        have HM3 : Hid (overL chi (L.drop (k + 1)) (max m x.num) = overL chi (L.drop p) 0) := HM2.out
        go_wp2_with fail
        go_region
        go_wp2_with fail
        go_roundw
        case rel => exact ⟨k + 1, max m x.num, rfl, by go_num, by omega, HM3.out, HBW.out.drew, HBB.out⟩
        case measure => simp [intOf]; omega
      | false =>
        have HM3 : Hid (m = overL chi (L.drop p) 0) := HM2.out
        go_wp2_with fail
        go_region
        go_wp2_with fail
        go_ret
        exact ⟨by rw [HRF.out, ← HM3.out]; rfl, HBW.out.drew⟩
    · obtain rfl : k = n := by omega
      have hdr : L.drop k = [] := List.drop_of_length_le (by rw [hTw.2.1]; exact Nat.le_refl _)
      have hm := HM.out
      rw [hdr] at hm
      have HM3 : Hid (m = overL chi (L.drop p) 0) := hm
      clear hTw hdr hm
      go_wp2_with fail
      go_region
      go_wp2_with fail
      go_ret
      exact ⟨by rw [HRF.out, ← HM3.out]; rfl, HBW.out.drew⟩
end Go.Proofs.YtpknmfmpiachkaaGreat
